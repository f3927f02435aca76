/- Merged by pack.py: Srt, GxLJ, GxJ, IntA, Arg, CatP, GxLF, IntF, GxOB, PrgA, PrgB, GxNK, GxSG. -/
import Derived.Test.YtlpgdngcgbeegaaGreatIt1
import Derived.Test.YtlpgdngcgbeegaaGreatIt2
namespace Go.Proofs.YtlpgdngcgbeegaaGreat.Gx
open Go
set_option linter.unusedSimpArgs false
set_option linter.unusedVariables false
abbrev iv(n:Int):Value:=.int .i64 n
def g(xs:List Int)(i:Nat):Int:=xs.getD i 0
def swp(xs:List Int)(p q:Nat):List Int:=(xs.set p (g xs q)).set q (g xs p)
theorem swp_len(xs:List Int)(p q:Nat):(swp xs p q).length=xs.length:=by simp[swp]
theorem g_eq{xs:List Int}{i:Nat}(h:i<xs.length):xs[i]? =some (g xs i):=by
 unfold g;rw[List.getElem?_eq_getElem h,List.getElem_eq_getD (fallback:=0)]
theorem g_swp{xs:List Int}{p q:Nat}(hp:p<xs.length)(hq:q<xs.length)(i:Nat):g (swp xs p q) i=if i=q then g xs p else if i=p then g xs q else g xs i:=by
 show ((xs.set p (g xs q)).set q (g xs p)).getD i 0=_
 rw[List.getD_eq_getElem?_getD,List.getElem?_set,List.getElem?_set]
 by_cases h1:q=i
 ·subst h1;simp[hq]
 ·by_cases h2:p=i
  ·subst h2;simp[h1,hp,Ne.symm h1]
  ·simp only[if_neg h1,if_neg h2,if_neg (Ne.symm h1),if_neg (Ne.symm h2)]
   unfold g;rw[List.getD_eq_getElem?_getD]
theorem g_swq{xs:List Int}{p q:Nat}(hp:p<xs.length)(hq:q<xs.length):g (swp xs p q) q=g xs p:=by rw[g_swp hp hq,if_pos rfl]
theorem g_swl{xs:List Int}{p q:Nat}(hp:p<xs.length)(hq:q<xs.length):g (swp xs p q) p=g xs q:=by
 rw[g_swp hp hq]
 split
 ·rename_i h;rw[h]
 ·rw[if_pos rfl]
theorem g_swo{xs:List Int}{p q i:Nat}(hp:p<xs.length)(hq:q<xs.length)(h1:i≠p)(h2:i≠q):g (swp xs p q) i=g xs i:=by rw[g_swp hp hq,if_neg h2,if_neg h1]
theorem swp_perm{xs:List Int}{p q:Nat}(hp:p<xs.length)(hq:q<xs.length):(swp xs p q).Perm xs:=by
 have h:=(Array.swap_perm (xs:=xs.toArray) (i:=p) (j:=q) (by simpa using hp) (by simpa using hq)).toList
 have e:(xs.toArray.swap p q (by simpa using hp) (by simpa using hq)).toList=swp xs p q:=by
  apply List.ext_getElem?
  intro i
  simp only[Array.swap,swp,Array.toList_set,List.getElem_toArray,g,List.getD_eq_getElem?_getD,List.getElem?_eq_getElem hp,List.getElem?_eq_getElem hq,Option.getD_some]
 rw[e] at h
 exact h
inductive PI(a b:Nat)(xs:List Int):List Int->Prop
 | refl:PI a b xs xs
 | step {ys:List Int} {p q:Nat}:PI a b xs ys->a<=p->p<b->a<=q->q<b->b<=ys.length->PI a b xs (swp ys p q)
theorem PI.len{a b:Nat}{xs ys:List Int}(h:PI a b xs ys):ys.length=xs.length:=by
 induction h with
 | refl=>rfl
 | step _ _ _ _ _ _ ih=>rw[swp_len,ih]
theorem PI.perm{a b:Nat}{xs ys:List Int}(h:PI a b xs ys):ys.Perm xs:=by
 induction h with
 | refl=>exact .refl _
 | step _ _ h2 _ h4 h5 ih=>exact(swp_perm (by omega) (by omega)).trans ih
theorem PI.out{a b:Nat}{xs ys:List Int}(h:PI a b xs ys){i:Nat}(hi:i<a\/b<=i):g ys i=g xs i:=by
 induction h with
 | refl=>rfl
 | step _ h1 h2 h3 h4 h5 ih=>rw[g_swp (by omega) (by omega),if_neg (by omega),if_neg (by omega),ih]
theorem PI.all{a b:Nat}{xs ys:List Int}(h:PI a b xs ys){Q:Int->Prop}(hq:∀i,a<=i->i<b->Q (g xs i)):∀i,a<=i->i<b->Q (g ys i):=by
 induction h with
 | refl=>exact hq
 | step _ h1 h2 h3 h4 h5 ih=>
  intro i hi hi2
  rw[g_swp (by omega) (by omega)]
  split
  ·exact ih _ h1 h2
  ·split
   ·exact ih _ h3 h4
   ·exact ih _ hi hi2
theorem PI.mono{a b a' b':Nat}{xs ys:List Int}(h:PI a b xs ys)(ha:a'<=a)(hb:b<=b')(hl:b'<=xs.length):PI a' b' xs ys:=by
 induction h with
 | refl=>exact .refl
 | step h h1 h2 h3 h4 h5 ih=>exact .step ih (by omega) (by omega) (by omega) (by omega) (by rw[h.len];exact hl)
theorem PI.trans{a b:Nat}{xs ys zs:List Int}(h:PI a b xs ys)(k:PI a b ys zs):PI a b xs zs:=by
 induction k with
 | refl=>exact h
 | step _ h1 h2 h3 h4 h5 ih=>exact .step ih h1 h2 h3 h4 h5
def SO(xs:List Int)(a b:Nat):Prop:=∀i j,a<=i->i<j->j<b->g xs i<=g xs j
def Ar(s:Sl)(b:Nat)(H:Array Obj)(xs:List Int):Prop:=
 s.p=some ⟨b,0,none⟩/\s.n=xs.length/\xs.length<=1000000/\∃arr T,H[b]? =some (.cells arr T (0,0))/\arr.size=s.c/\s.n<=s.c/\arr.toList.take s.n=xs.map iv
abbrev CB(b:Nat)(w w':World):Prop:=Ch (fun i=>i=b) w w'
theorem Ar.own{s:Sl}{b:Nat}{w:World}{xs:List Int}(h:Ar s b w.heap xs):OwS w s 1 (xs.map iv):=by
 obtain⟨h1,h2,_,arr,T,h3,h4,h5,h6⟩:=h
 exact .inr ⟨b,arr,T,h1,h3,by omega,h5,by rw[Nat.mul_one];exact h6⟩
theorem Ar.of{s:Sl}{w:World}{xs:List Int}(h:OwS w s 1 (xs.map iv))(h0:0<xs.length)(hl:xs.length<=1000000):∃b,Ar s b w.heap xs/\blk s=[b]:=by
 have hn:=h.len1
 rw[List.length_map] at hn
 rcases h with ⟨rfl,h⟩|⟨b,arr,T,h1,h3,h4,h5,h6⟩
 ·rw[List.map_eq_nil_iff] at h;subst h;cases h0
 ·exact⟨b,⟨h1,hn,hl,arr,T,h3,by omega,h5,by rw[Nat.mul_one] at h6;exact h6⟩,by simp[blk,h1]⟩
theorem Ar.lt{s:Sl}{b:Nat}{w:World}{xs:List Int}(h:Ar s b w.heap xs):b<w.heap.size:=by
 obtain⟨_,_,_,_,_,h3,_⟩:=h
 exact heap_lt h3
theorem rd{s:Sl}{b:Nat}{w:World}{xs:List Int}(h:Ar s b w.heap xs){i:Int}(h0:0<=i)(h1:i<xs.length){K:Int->Prop}(k:K (g xs i.toNat)):
  ∃b1 b2:Nat,s.1=some ⟨b1,b2,none⟩/\((0:Int)<=i/\i<(s.2:Int))/\∃n,w.cell? ⟨b1,b2+i.toNat,none⟩=some (.int .i64 n)/\K n:=by
 obtain⟨e1,e2,_,arr,T,e3,e4,e5,e6⟩:=h
 refine⟨b,0,e1,⟨h0,by show i<(s.n:Int);omega⟩,_,?_,k⟩
 rw[cell_of e3,Nat.zero_add,<-Array.getElem?_toList]
 have:(arr.toList.take s.n)[i.toNat]? =some (iv (g xs i.toNat)):=by rw[e6,List.getElem?_map,g_eq (by omega)];rfl
 rw[List.getElem?_take,if_pos (by omega)] at this
 exact this
theorem wr{s:Sl}{b:Nat}{w:World}{xs:List Int}(h:Ar s b w.heap xs){i x:Int}(h0:0<=i)(h1:i<xs.length){K:World->Prop}(k:∀w',Ar s b w'.heap (xs.set i.toNat x)->CB b w w'->K w'):
  ∃b1 b2:Nat,s.1=some ⟨b1,b2,none⟩/\((0:Int)<=i/\i<(s.2:Int))/\#[Value.int .i64 x].size=1/\StoreP w b1 (b2+i.toNat) [.int .i64 x] K:=by
 obtain⟨e1,e2,el,arr,T,e3,e4,e5,e6⟩:=h
 refine⟨b,0,e1,⟨h0,by show i<(s.n:Int);omega⟩,rfl,store_one e3 (by omega) rfl fun w' hw=>k w' ⟨e1,by rw[List.length_set];exact e2,by rw[List.length_set];exact el,_,T,hw.new,by rw[Array.size_setIfInBounds];exact e4,e5,?_⟩ hw.ch⟩
 rw[Nat.zero_add,Array.toList_setIfInBounds,List.take_set,e6,List.map_set]
theorem sw{s:Sl}{b:Nat}{w:World}{xs:List Int}(h:Ar s b w.heap xs){p q:Int}(hp0:0<=p)(hp1:p<xs.length)(hq0:0<=q)(hq1:q<xs.length){K:World->Prop}(k:∀w',Ar s b w'.heap (swp xs p.toNat q.toNat)->CB b w w'->K w'):
  ∃b1 b2:Nat,s.1=some ⟨b1,b2,none⟩/\((0:Int)<=q/\q<(s.2:Int))/\∃n,w.cell? ⟨b1,b2+q.toNat,none⟩=some (.int .i64 n)/\
  ∃b3 b4:Nat,s.1=some ⟨b3,b4,none⟩/\((0:Int)<=p/\p<(s.2:Int))/\∃m,w.cell? ⟨b3,b4+p.toNat,none⟩=some (.int .i64 m)/\
  ∃b5 b6:Nat,s.1=some ⟨b5,b6,none⟩/\((0:Int)<=p/\p<(s.2:Int))/\#[Value.int .i64 n].size=1/\StoreP w b5 (b6+p.toNat) [.int .i64 n] fun w1=>
  ∃b7 b8:Nat,s.1=some ⟨b7,b8,none⟩/\((0:Int)<=q/\q<(s.2:Int))/\#[Value.int .i64 m].size=1/\StoreP w1 b7 (b8+q.toNat) [.int .i64 m] K:=by
 refine rd h hq0 hq1 (rd h hp0 hp1 (wr h hp0 hp1 fun w1 h1 c1=>wr h1 hq0 (by rw[List.length_set];exact hq1) fun w2 h2 c2=>k w2 h2 (c1.trans c2)))
theorem c214(x:Int)(w:World):Cw 214 #[.int .i64 x] w fun v w'=>v=.bool false/\w=w':=
 F214_ok _ _ _ ⟨by simp,rfl⟩
theorem c263(x y:Int)(w:World):Cw 263 #[.int .i64 x,.int .i64 y] w fun v w'=>v=.bool (decide (x<y))/\w=w':=by
 refine F263_ok _ _ _ _ ((c214 x w).use ?_)
 rintro _ _ ⟨rfl,rfl⟩
 exact⟨false,rfl,IfB.no rfl ⟨rfl,rfl⟩⟩
theorem ls{s:Sl}{b:Nat}{w:World}{xs:List Int}(h:Ar s b w.heap xs){i j:Int}(hi0:0<=i)(hi1:i<xs.length)(hj0:0<=j)(hj1:j<xs.length){K:Bool->World->Prop}(k:K (decide (g xs i.toNat<g xs j.toNat)) w):
  ∃b1 b2:Nat,s.1=some ⟨b1,b2,none⟩/\((0:Int)<=i/\i<(s.2:Int))/\∃n,w.cell? ⟨b1,b2+i.toNat,none⟩=some (.int .i64 n)/\
  ∃b3 b4:Nat,s.1=some ⟨b3,b4,none⟩/\((0:Int)<=j/\j<(s.2:Int))/\∃m,w.cell? ⟨b3,b4+j.toNat,none⟩=some (.int .i64 m)/\
  Cx 263 #[.int .i64 n,.int .i64 m] w fun v w'=>∃t,v=.bool t/\K t w':=by
 refine rd h hi0 hi1 (rd h hj0 hj1 ((c263 _ _ w).use ?_))
 rintro _ _ ⟨rfl,rfl⟩
 exact⟨_,rfl,k⟩
theorem wp1{i:Nat}(h:i<=1000000000000):IntKind.i64.wrap ((i:Int)+(1:Int))=((i+1:Nat):Int):=by rw[wrap_of (by omega) (by omega)];rfl
theorem wm1{i:Nat}(h0:1<=i)(h:i<=1000000000000):IntKind.i64.wrap ((i:Int)-(1:Int))=((i-1:Nat):Int):=by rw[wrap_of (by omega) (by omega)];omega
theorem wad{i j:Nat}(h:i+j<=1000000000000):IntKind.i64.wrap ((i:Int)+(j:Int))=((i+j:Nat):Int):=by rw[wrap_of (by omega) (by omega)];rfl
theorem wsb{i j:Nat}(h0:j<=i)(h:i<=1000000000000):IntKind.i64.wrap ((i:Int)-(j:Int))=((i-j:Nat):Int):=by rw[wrap_of (by omega) (by omega)];omega
theorem wdb{i:Nat}(h:i<=100000000000):IntKind.i64.wrap ((2:Int)*(i:Int))=((2*i:Nat):Int):=by rw[wrap_of (by omega) (by omega)];omega
theorem c257{s:Sl}{b:Nat}{w:World}{xs:List Int}{a e:Nat}(h:Ar s b w.heap xs)(he:e<=xs.length)(ha:a<=xs.length):
  Cw 257 #[slV s,iv a,iv e] w fun v w'=>v=.tuple #[]/\∃ys,PI a e xs ys/\SO ys a e/\Ar s b w'.heap ys/\CB b w w':=by
 have hl:xs.length<=1000000:=h.2.2.1
 refine F257_ok s a e w _ ⟨fun n x W=>∃(i:Nat)(ys:List Int),n=e+1-i/\x=(i:Int)/\a+1<=i/\(i=a+1\/i<=e)/\PI a e xs ys/\SO ys a i/\Ar s b W.heap ys/\CB b w W,⟨_,a+1,xs,rfl,wp1 (by omega),Nat.le_refl _,.inl rfl,.refl,fun i j _ _ _=>by omega,h,Ch.refl _ _⟩,?_⟩
 rintro n _ W _ ⟨i,ys,rfl,rfl,hai,hi,hP,hS,hA,hC⟩
 have hyl:=hP.len
 refine IfB.dec (fun hlt=>?_) (fun hge=>⟨rfl,ys,hP,fun p q h1 h2 h3=>hS p q h1 h2 (by omega),hA,hC⟩)
 have hie:i<e:=by omega
 refine⟨fun m x W'=>∃(j:Nat)(zs:List Int),j=m/\x=(j:Int)/\a<=j/\j<=i/\PI a e xs zs/\(∀p q,a<=p->p<q->q<=i->q≠j->g zs p<=g zs q)/\Ar s b W'.heap zs/\CB b w W',⟨_,i,ys,rfl,rfl,by omega,Nat.le_refl _,hP,fun p q h1 h2 h3 h4=>hS p q h1 h2 (by omega),hA,hC⟩,?_⟩
 rintro m _ W1 _ ⟨j,zs,rfl,rfl,haj,hji,hP1,hS1,hA1,hC1⟩
 have hzl:=hP1.len
 have hCd:CB b w W1.drew:=hC1.then (extDrew W1) fun _ _ h=>h.elim
 have done:(∀p,a<=p->p<j->g zs p<=g zs j)->∀W2:World,W2=W1.drew->([]:List Nat)=[]/\∃b38,b38<e+1-i/\∃(i':Nat)(ys:List Int),b38=e+1-i'/\IntKind.i64.wrap ((i:Int)+(1:Int))=(i':Int)/\a+1<=i'/\(i'=a+1\/i'<=e)/\PI a e xs ys/\SO ys a i'/\Ar s b W2.heap ys/\CB b w W2:=by
  rintro hj W2 rfl
  refine⟨rfl,e+1-(i+1),by omega,i+1,zs,rfl,wp1 (by omega),by omega,.inr (by omega),hP1,fun p q h1 h2 h3=>?_,hA1,hCd⟩
  by_cases hq:q=j
  ·subst hq;exact hj p h1 h2
  ·exact hS1 p q h1 h2 (by omega) hq
 unfold F257j2
 refine IfB.dec (fun hlt2=>?_) (fun hge2=>done (fun p h1 h2=>by omega) _ rfl)
 have hj:a<j:=by omega
 have hw:=wm1 (i:=j) (by omega) (by omega)
 rw[hw]
 refine ls (w:=W1.drew) hA1 (by omega) (by omega) (by omega) (by omega) (IfB.dec (fun hl1=>?_) (fun hl1=>done (fun p h1 h2=>?_) _ rfl))
 ·rw[Int.toNat_natCast,Int.toNat_natCast] at hl1
  refine sw (w:=W1.drew.drew) hA1 (by omega) (by omega) (by omega) (by omega) fun W3 hA3 hC3=>⟨rfl,j-1,by omega,j-1,_,rfl,rfl,by omega,by omega,.step hP1 (p:=j) (q:=j-1) (by omega) (by omega) (by omega) (by omega) (by omega),?_,hA3,(hCd.then (extDrew _) fun _ _ h=>h.elim).trans hC3⟩
  intro p q h1 h2 h3 h4
  rw[g_swp (by omega) (by omega),g_swp (by omega) (by omega)]
  have A1:=hS1 p (j-1) h1
  have A2:=hS1 p q h1 h2 h3
  have A3:=hS1 j q (by omega)
  have A4:=hS1 (j-1) q (by omega)
  split<;>split<;>(try split)<;>(try split)<;>first|omega|skip
 ·rw[Int.toNat_natCast,Int.toNat_natCast] at hl1
  have:=hS1 p (j-1) h1
  by_cases hp:p=j-1
  ·subst hp;omega
  ·have:=this (by omega) (by omega) (by omega)
   omega
def HpAt(xs:List Int)(f hi k:Nat):Prop:=∀c,c=2*k+1\/c=2*k+2->c<hi->g xs (f+c)<=g xs (f+k)
theorem c282{s:Sl}{b:Nat}{w:World}{xs:List Int}{lo hi f:Nat}(h:Ar s b w.heap xs)(hl:f+hi<=xs.length)(hlo:lo<=1000000)(hh:∀k,lo<k->HpAt xs f hi k):
  Cw 282 #[slV s,iv lo,iv hi,iv f] w fun v w'=>v=.tuple #[]/\∃ys,PI f (f+hi) xs ys/\(∀k,lo<=k->HpAt ys f hi k)/\Ar s b w'.heap ys/\CB b w w':=by
 have hll:xs.length<=1000000:=h.2.2.1
 refine F282_ok s lo hi f w _ ⟨fun n x W=>∃(r:Nat)(ys:List Int),n=hi-r/\x=(r:Int)/\lo<=r/\(r=lo\/r<hi)/\PI f (f+hi) xs ys/\(∀k,lo<=k->k≠r->HpAt ys f hi k)/\
  (∀k,lo<=k->r=2*k+1\/r=2*k+2->∀c,c=2*r+1\/c=2*r+2->c<hi->g ys (f+c)<=g ys (f+k))/\Ar s b W.heap ys/\CB b w W,⟨_,lo,xs,rfl,rfl,Nat.le_refl _,.inl rfl,.refl,fun k h1 h2=>hh k (by omega),fun k h1 h2=>by omega,h,Ch.refl _ _⟩,?_⟩
 rintro n _ W _ ⟨r,ys,rfl,rfl,hlr,hr,hP,hH,hG,hA,hC⟩
 have hyl:=hP.len
 unfold F282j1
 rw[wdb (by omega),wp1 (by omega)]
 refine IfB.dec (fun hge=>⟨rfl,ys,hP,fun k hk=>?_,hA,hC⟩) (fun hlt=>?_)
 ·by_cases hkr:k=r
  ·subst hkr;intro c hc1 hc2;omega
  ·exact hH k hk hkr
 have hc1:2*r+1<hi:=by omega
 rw[wp1 (by omega),wad (by omega),wp1 (by omega)]
 have hCd:CB b w W.drew:=hC.then (extDrew W) fun _ _ h=>h.elim
 refine⟨fun x W'=>∃c:Nat,x=(c:Int)/\(c=2*r+1\/c=2*r+2)/\c<hi/\(∀d,d=2*r+1\/d=2*r+2->d<hi->g ys (f+d)<=g ys (f+c))/\W'=W.drew,?_,?_⟩
 ·refine IfB.dec (fun h2=>?_) (fun h2=>⟨rfl,2*r+1,rfl,.inl rfl,hc1,fun d hd1 hd2=>?_,rfl⟩)
  ·refine ls (w:=W.drew) hA (by omega) (by omega) (by omega) (by omega) (IfB.dec (fun hl1=>⟨rfl,2*r+1+1,rfl,.inr rfl,by omega,fun d hd1 hd2=>?_,rfl⟩) (fun hl1=>⟨rfl,2*r+1,rfl,.inl rfl,hc1,fun d hd1 hd2=>?_,rfl⟩))
   ·rw[Int.toNat_natCast,Int.toNat_natCast] at hl1
    rcases hd1 with rfl|rfl
    ·rw[show f+(2*r+1+1)=f+(2*r+1)+1 by omega];omega
    ·exact Int.le_refl _
   ·rw[Int.toNat_natCast,Int.toNat_natCast] at hl1
    rcases hd1 with rfl|rfl
    ·exact Int.le_refl _
    ·rw[show f+(2*r+2)=f+(2*r+1)+1 by omega];omega
  ·have:d=2*r+1:=by omega
   subst this;exact Int.le_refl _
 rintro _ _ _ ⟨c,rfl,hc2,hc3,hc4,rfl⟩
 unfold F282j2
 rw[wad (by omega),wad (by omega)]
 have hCd2:CB b w W.drew.drew:=hCd.then (extDrew _) fun _ _ h=>h.elim
 have hCd3:CB b w W.drew.drew.drew:=hCd2.then (extDrew _) fun _ _ h=>h.elim
 refine ls (w:=W.drew.drew) hA (by omega) (by omega) (by omega) (by omega) (IfB.intro (fun hl1=>⟨rfl,ys,hP,fun k hk=>?_,hA,hCd2⟩) fun hl1=>?_)
 ·simp only[Int.toNat_natCast,Bool.not_eq_true',decide_eq_false_iff_not] at hl1
  by_cases hkr:k=r
  ·subst hkr
   intro d hd1 hd2
   have:=hc4 d hd1 hd2
   omega
  ·exact hH k hk hkr
 ·simp only[Int.toNat_natCast,Bool.not_eq_false',decide_eq_true_eq] at hl1
  refine sw (w:=W.drew.drew.drew) hA (by omega) (by omega) (by omega) (by omega) fun W3 hA3 hC3=>⟨rfl,hi-c,by omega,c,_,rfl,rfl,by omega,.inr hc3,.step hP (p:=f+r) (q:=f+c) (by omega) (by omega) (by omega) (by omega) (by omega),?_,?_,hA3,hCd3.trans hC3⟩
  ·intro k hk hkc d hd1 hd2
   by_cases hkr:k=r
   ·subst hkr
    rw[g_swl (by omega) (by omega)]
    by_cases hdc:d=c
    ·subst hdc;rw[g_swq (by omega) (by omega)];omega
    ·rw[g_swo (by omega) (by omega) (by omega) (by omega)];exact hc4 d hd1 hd2
   ·rw[g_swo (i:=f+k) (by omega) (by omega) (by omega) (by omega)]
    by_cases hdr:d=r
    ·subst hdr
     rw[g_swl (by omega) (by omega)]
     exact hG k hk hd1 c hc2 hc3
    ·rw[g_swo (by omega) (by omega) (by omega) (by omega)]
     exact hH k hk hkr d hd1 hd2
  ·intro k hk hck d hd1 hd2
   have hkr:k=r:=by omega
   subst hkr
   rw[g_swl (by omega) (by omega),g_swo (by omega) (by omega) (by omega) (by omega)]
   exact hH c (by omega) (by omega) d hd1 hd2
theorem heap_max{xs:List Int}{f hi:Nat}(h:∀k,HpAt xs f hi k)(p:Nat)(hp:p<hi):g xs (f+p)<=g xs f:=by
 induction p using Nat.strongRecOn with
 | _ p ih=>
  by_cases h0:p=0
  ·subst h0;exact Int.le_refl _
  ·have h1:=h ((p-1)/2) p (by omega) hp
   have h2:=ih ((p-1)/2) (by omega) (by omega)
   omega
theorem c258{s:Sl}{b:Nat}{w:World}{xs:List Int}{a e:Nat}(h:Ar s b w.heap xs)(he:e<=xs.length)(ha:a<=e):
  Cw 258 #[slV s,iv a,iv e] w fun v w'=>v=.tuple #[]/\∃ys,PI a e xs ys/\SO ys a e/\Ar s b w'.heap ys/\CB b w w':=by
 have hl:xs.length<=1000000:=h.2.2.1
 refine F258_ok s a e w _ ⟨by decide,?_⟩
 have hea:a+(e-a)=e:=by omega
 rw[wsb ha (by omega)]
 generalize hhi:e-a=hi at hea
 refine⟨fun n x W=>∃(i:Nat)(ys:List Int),i=n/\x=(i:Int)-1/\i<=hi+1/\PI a e xs ys/\(∀k,i<=k->HpAt ys a hi k)/\Ar s b W.heap ys/\CB b w W,⟨_,(if hi=0 then 1 else (hi-1)/2+1),xs,rfl,?_,?_,.refl,?_,h,Ch.refl _ _⟩,?_⟩
 ·rw[wrap_of (n:=(hi:Int)-1) (by omega) (by omega)]
  split
  ·rename_i h0;subst h0;decide
  ·rename_i h0
   rw[Int.tdiv_eq_ediv_of_nonneg (by omega),wrap_of (by omega) (by omega)]
   omega
 ·split<;>omega
 ·intro k hk c hc1 hc2
  split at hk<;>omega
 rintro n _ W _ ⟨i,ys,rfl,rfl,hi1,hP,hH,hA,hC⟩
 have hyl:=hP.len
 unfold F258j1
 refine IfB.dec (fun hge=>?_) (fun hlt=>?_)
 ·rw[show ((i:Int)-1)=((i-1:Nat):Int) by omega,wsb ha (by omega),hhi]
  refine(c282 hA (by omega) (by omega) fun k hk=>hH k (by omega)).use ?_
  rintro _ W2 ⟨rfl,zs,hP2,hH2,hA2,hC2⟩
  rw[hea] at hP2
  exact⟨(),rfl,rfl,i-1,by omega,i-1,zs,rfl,by rw[wrap_of (by omega) (by omega)],by omega,hP.trans hP2,hH2,hA2,hC.trans hC2⟩
 ·have hi0:i=0:=by omega
  subst hi0
  refine⟨fun n x W'=>∃(i:Nat)(zs:List Int),i=n/\x=(i:Int)-1/\i<=hi/\PI a e xs zs/\(∀k,HpAt zs a i k)/\(∀p q,i<=p->p<q->q<hi->g zs (a+p)<=g zs (a+q))/\(∀p q,p<i->i<=q->q<hi->g zs (a+p)<=g zs (a+q))/\Ar s b W'.heap zs/\CB b w W',⟨_,hi,ys,rfl,?_,Nat.le_refl _,hP,fun k=>hH k (Nat.zero_le _),fun p q _ _ _=>by omega,fun p q _ _ _=>by omega,hA,hC⟩,?_⟩
  ·rw[wsb ha (by omega),hhi,wrap_of (by omega) (by omega)]
  rintro n _ W1 _ ⟨i,zs,rfl,rfl,hi2,hP1,hH1,hS1,hX1,hA1,hC1⟩
  have hzl:=hP1.len
  unfold F258j2
  refine IfB.dec (fun hge=>?_) (fun hlt=>⟨rfl,zs,hP1,fun p q h1 h2 h3=>?_,hA1,hC1⟩)
  ·obtain⟨m,rfl⟩:∃m,i=m+1:=⟨i-1,by omega⟩
   rw[show (((m+1:Nat):Int)-1)=(m:Int) by omega,wad (by omega)]
   have hCd:CB b w W1.drew:=hC1.then (extDrew W1) fun _ _ h=>h.elim
   refine sw (w:=W1.drew) hA1 (by omega) (by omega) (by omega) (by omega) fun W2 hA2 hC2=>?_
   rw[Int.toNat_natCast,Int.toNat_natCast] at hA2
   have hP2:PI a e xs (swp zs a (a+m)):=.step hP1 (by omega) (by omega) (by omega) (by omega) (by omega)
   have g0:∀p,0<p->p<m->g (swp zs a (a+m)) (a+p)=g zs (a+p):=fun p h1 h2=>g_swo (by omega) (by omega) (by omega) (by omega)
   have gm:g (swp zs a (a+m)) (a+m)=g zs a:=g_swq (by omega) (by omega)
   have gz:g (swp zs a (a+m)) a=g zs (a+m):=g_swl (by omega) (by omega)
   have gb:∀q,m<q->g (swp zs a (a+m)) (a+q)=g zs (a+q):=fun q h1=>g_swo (by omega) (by omega) (by omega) (by omega)
   refine(c282 (lo:=0) hA2 (by rw[swp_len];omega) (by omega) fun k hk c hc1 hc2=>?_).use ?_
   ·rw[g0 k hk (by omega),g0 c (by omega) hc2]
    exact hH1 k c hc1 (by omega)
   rintro _ W3 ⟨rfl,us,hP3,hH3,hA3,hC3⟩
   have hmax:=heap_max hH1
   have hP3':PI a e (swp zs a (a+m)) us:=hP3.mono (Nat.le_refl _) (by omega) (by rw[swp_len];omega)
   have ub:∀q,m<=q->g us (a+q)=g (swp zs a (a+m)) (a+q):=fun q hq=>hP3.out (.inr (by omega))
   refine⟨(),rfl,rfl,m,by omega,m,us,rfl,by rw[wrap_of (by omega) (by omega)],by omega,hP2.trans hP3',fun k=>hH3 k (Nat.zero_le _),?_,?_,hA3,(hCd.trans hC2).trans hC3⟩
   ·intro p q h1 h2 h3
    rw[ub p h1,ub q (by omega),gb q (by omega)]
    by_cases hp:p=m
    ·subst hp;rw[gm]
     have:=hX1 0 q (by omega) (by omega) h3
     exact this
    ·rw[gb p (by omega)];exact hS1 p q (by omega) h2 h3
   ·intro p q h1 h2 h3
    have hQ:∀i,a<=i->i<a+m->(fun v=>v<=g us (a+q)) (g us i):=by
     refine hP3.all (Q:=fun v=>v<=g us (a+q)) fun i h4 h5=>?_
     show _<=g us (a+q)
     rw[ub q h2]
     obtain⟨t,rfl⟩:∃t,i=a+t:=⟨i-a,by omega⟩
     have h6:g (swp zs a (a+m)) (a+t)=g zs (a+t)\/g (swp zs a (a+m)) (a+t)=g zs (a+m):=by
      by_cases ht:t=0
      ·subst ht;exact .inr gz
      ·exact .inl (g0 t (by omega) (by omega))
     by_cases hq:q=m
     ·subst hq
      rw[gm]
      have h7:=hmax t (by omega)
      have h8:=hmax q (by omega)
      rcases h6 with h6|h6<;>omega
     ·rw[gb q (by omega)]
      have h7:=hX1 t q (by omega) (by omega) h3
      have h8:=hX1 m q (by omega) (by omega) h3
      rcases h6 with h6|h6<;>omega
    exact hQ _ (by omega) (by omega)
  ·obtain⟨p',rfl⟩:∃t,p=a+t:=⟨p-a,by omega⟩
   obtain⟨q',rfl⟩:∃t,q=a+t:=⟨q-a,by omega⟩
   exact hS1 p' q' (by omega) (by omega) (by omega)
theorem c261{s:Sl}{b:Nat}{w:World}{xs:List Int}{a e:Nat}(h:Ar s b w.heap xs)(he:e<=xs.length)(ha:a<e):
  Cw 261 #[slV s,iv a,iv e] w fun v w'=>v=.tuple #[]/\∃ys,PI a e xs ys/\Ar s b w'.heap ys/\CB b w w':=by
 have hl:xs.length<=1000000:=h.2.2.1
 refine F261_ok s a e w _ ⟨fun n x W=>∃(i j:Nat)(ys:List Int),n=j/\x=((i:Int),(j:Int))/\a<=i/\j<e/\i<=j+1/\PI a e xs ys/\Ar s b W.heap ys/\CB b w W,⟨_,a,e-1,xs,rfl,by rw[wm1 (by omega) (by omega)],Nat.le_refl _,by omega,by omega,.refl,h,Ch.refl _ _⟩,?_⟩
 rintro n _ W _ ⟨i,j,ys,rfl,rfl,hai,hje,hij,hP,hA,hC⟩
 have hyl:=hP.len
 unfold F261j1
 refine IfB.dec (fun hlt=>?_) (fun hge=>⟨rfl,ys,hP,hA,hC⟩)
 have hlt:i<n:=by
  have:(i:Int)<(n:Int):=hlt
  omega
 have hCd:CB b w W.drew:=hC.then (extDrew W) fun _ _ h=>h.elim
 refine sw (w:=W.drew) hA (p:=(i:Int)) (q:=(n:Int)) (by omega) (by omega) (by omega) (by omega) fun W2 hA2 hC2=>?_
 rw[Int.toNat_natCast,Int.toNat_natCast] at hA2
 exact⟨rfl,n-1,by omega,i+1,n-1,_,rfl,by rw[<-wp1 (by omega),<-wm1 (by omega) (by omega)],by omega,by omega,by omega,.step hP (by omega) (by omega) (by omega) (by omega) (by omega),hA2,hCd.trans hC2⟩
theorem Ar.ch{F:Nat->Prop}{s:Sl}{b:Nat}{w w':World}{xs:List Int}(h:Ar s b w.heap xs)(hc:Ch F w w')(hF:¬F b):Ar s b w'.heap xs:=by
 obtain⟨e1,e2,e3,arr,T,e4,e5⟩:=h
 exact⟨e1,e2,e3,arr,T,hc.at e4 hF,e5⟩
def Ct(k:IntKind)(b1:Nat)(w:World):Prop:=∃T n,w.heap[b1]? =some (.cells #[.int k n] T (0,0))
theorem c304{s:Sl}{b b1:Nat}{w:World}{xs:List Int}{i j:Nat}(h:Ar s b w.heap xs)(hc:Ct .i64 b1 w)(hne:b1≠b)(hi:i<xs.length)(hj:j<xs.length):
  Cw 304 #[slV s,iv i,iv j,.pointer (some ⟨b1,0,none⟩)] w fun v w'=>∃x y:Nat,v=.tuple #[iv x,iv y]/\(x=i/\y=j\/x=j/\y=i)/\Ar s b w'.heap xs/\Ct .i64 b1 w'/\Ch (fun q=>q=b1) w w':=by
 have hd:Ch (fun q=>q=b1) w w.drew:=(extDrew w).mono fun _ _ h=>h.elim
 refine F304_ok s i j _ w _ (ls (w:=w.drew) h (by omega) (by omega) (by omega) (by omega) (IfB.intro (fun _=>?_) (fun _=>⟨i,j,rfl,.inl ⟨rfl,rfl⟩,h,hc,hd⟩)))
 obtain⟨T,n,hn⟩:=hc
 refine⟨b1,0,rfl,n,by rw[cell_of (w:=w.drew) hn];rfl,b1,0,rfl,rfl,store_one (w:=w.drew) hn (by simp) rfl fun w2 h2=>⟨j,i,rfl,.inr ⟨rfl,rfl⟩,?_,⟨T,_,h2.new⟩,hd.trans h2.ch⟩⟩
 exact Ar.ch (w:=w.drew) h h2.ch (Ne.symm hne)
theorem c284{s:Sl}{b b1:Nat}{w:World}{xs:List Int}{i j k:Nat}(h:Ar s b w.heap xs)(hc:Ct .i64 b1 w)(hne:b1≠b)(hi:i<xs.length)(hj:j<xs.length)(hk:k<xs.length):
  Cw 284 #[slV s,iv i,iv j,iv k,.pointer (some ⟨b1,0,none⟩)] w fun v w'=>∃x:Nat,v=iv x/\(x=i\/x=j\/x=k)/\Ar s b w'.heap xs/\Ct .i64 b1 w'/\Ch (fun q=>q=b1) w w':=by
 refine F284_ok s i j k _ w _ ((c304 h hc hne hi hj).use ?_)
 rintro _ w2 ⟨x1,y1,rfl,e1,h2,k2,l2⟩
 refine⟨((x1:Int),(y1:Int)),rfl,(c304 h2 k2 hne (by omega) hk).use ?_⟩
 rintro _ w3 ⟨x2,y2,rfl,e2,h3,k3,l3⟩
 refine⟨((x2:Int),(y2:Int)),rfl,(c304 h3 k3 hne (by omega) (by omega)).use ?_⟩
 rintro _ w4 ⟨x3,y3,rfl,e3,h4,k4,l4⟩
 exact⟨((x3:Int),(y3:Int)),rfl,y3,rfl,by omega,h4,k4,(l2.trans l3).trans l4⟩
theorem c283{s:Sl}{b b1:Nat}{w:World}{xs:List Int}{i:Nat}(h:Ar s b w.heap xs)(hc:Ct .i64 b1 w)(hne:b1≠b)(h0:0<i)(hi:i+1<xs.length):
  Cw 283 #[slV s,iv i,.pointer (some ⟨b1,0,none⟩)] w fun v w'=>∃x:Nat,v=iv x/\(i<=x+1/\x<=i+1)/\Ar s b w'.heap xs/\Ct .i64 b1 w'/\Ch (fun q=>q=b1) w w':=by
 have hl:=h.2.2.1
 refine F283_ok s i _ w _ ?_
 unfold F283
 rw[wm1 (by omega) (by omega),wp1 (by omega)]
 refine(c284 h hc hne (by omega) (by omega) hi).use ?_
 rintro _ w2 ⟨x,rfl,e,h2,k2,l2⟩
 exact⟨_,rfl,x,rfl,by omega,h2,k2,l2⟩
theorem wmul{i:Nat}{k:Int}{m:Nat}(hk:k=(m:Int))(hm:m<=4)(hi:i<=1000000):IntKind.i64.wrap ((i:Int)*k)=((i*m:Nat):Int):=by
 subst hk
 have:i*m<=4000000:=Nat.le_trans (Nat.mul_le_mul hi hm) (by decide)
 rw[<-Int.natCast_mul,wrap_of (by omega) (by omega)]
theorem c260{s:Sl}{b:Nat}{w:World}{xs:List Int}{a e:Nat}(h:Ar s b w.heap xs)(he:e<=xs.length)(ha:a+12<e):
  Cw 260 #[slV s,iv a,iv e] w fun v w'=>∃(p:Nat)(t:Int),v=.tuple #[iv p,iv t]/\(a<=p/\p<e)/\Ar s b w'.heap xs/\Ext w w':=by
 have hl:=h.2.2.1
 have hlt:=h.lt
 refine F260_ok s a e w _ ?_
 intro b1 w2 h2
 have e2:Ext w w2:=h2.ch _
 have p2:=h2.here
 have hA2:=h.ch e2 id
 have hc2:Ct .i64 b1 w2:=⟨_,_,h2.new⟩
 have hne:b1≠b:=by omega
 have hq:IntKind.i64.wrap ((IntKind.i64.wrap ((e:Int)-(a:Int))).tdiv (4:Int))=(((e-a)/4:Nat):Int):=by
  rw[wsb (by omega) (by omega),Int.tdiv_eq_ediv_of_nonneg (by omega),wrap_of (by omega) (by omega)];omega
 rw[hq,wmul (k:=(1:Int)) (m:=1) rfl (by omega) (by omega),wmul (k:=(2:Int)) (m:=2) rfl (by omega) (by omega),wmul (k:=(3:Int)) (m:=3) rfl (by omega) (by omega),wad (by omega),wad (by omega),wad (by omega),wsb (by omega) (by omega)]
 generalize hqq:(e-a)/4=q
 have hx:∀ {w':World},Ch (fun i=>i=b1) w2 w'->Ext w w':=fun hc=>e2.then hc fun i hi h=>by omega
 refine⟨by decide,by decide,by decide,fun x W=>∃p:Nat,x=(p:Int)/\(a<=p/\p<e)/\Ar s b W.heap xs/\Ct .i64 b1 W/\Ch (fun i=>i=b1) w2 W,?_,?_⟩
 ·refine IfB.yes (decide_eq_true (by omega)) ⟨fun x W=>∃i j k:Nat,x=((i:Int),(j:Int),(k:Int))/\(a<=i/\i<e)/\(a<=j/\j<e)/\(a<=k/\k<e)/\Ar s b W.heap xs/\Ct .i64 b1 W/\Ch (fun i=>i=b1) w2 W,?_,?_⟩
  ·refine IfB.dec (fun h50=>?_) (fun _=>⟨rfl,_,_,_,rfl,by omega,by omega,by omega,hA2,hc2,Ch.refl _ _⟩)
   have h50:50<=e-a:=by omega
   refine(c283 hA2 hc2 hne (by omega) (by omega)).use ?_
   rintro _ w6 ⟨i,rfl,hi,h6,k6,l6⟩
   refine⟨_,rfl,(c283 h6 k6 hne (by omega) (by omega)).use ?_⟩
   rintro _ w9 ⟨j,rfl,hj,h9,k9,l9⟩
   refine⟨_,rfl,(c283 h9 k9 hne (by omega) (by omega)).use ?_⟩
   rintro _ w12 ⟨k,rfl,hk,h12,k12,l12⟩
   exact⟨_,rfl,rfl,i,j,k,rfl,by omega,by omega,by omega,h12,k12,(l6.trans l9).trans l12⟩
  ·rintro _ w15 _ ⟨i,j,k,rfl,hi,hj,hk,h15,k15,l15⟩
   refine(c284 h15 k15 hne (by omega) (by omega) (by omega)).use ?_
   rintro _ w19 ⟨x,rfl,hx,h19,k19,l19⟩
   exact⟨_,rfl,rfl,x,rfl,by omega,h19,k19,l15.trans l19⟩
 ·rintro _ w22 _ ⟨p,rfl,hp,h22,⟨T,n,hn⟩,l22⟩
  refine⟨n,by rw[cell_of hn];rfl,IfB.intro (fun _=>⟨p,1,rfl,hp,h22,hx l22⟩) fun _=>IfB.intro (fun _=>⟨p,2,rfl,hp,h22,hx l22⟩) fun _=>⟨p,0,rfl,hp,h22,hx l22⟩⟩
structure Pt(a e:Nat)(xs ys:List Int)(v:Int)(Lo:Int->Prop)(i j:Nat):Prop where
 pi:PI a e xs ys
 len:e<=xs.length
 v:g ys a=v
 ai:a+1<=i
 ij:i<=j+1
 je:j+1<=e
 lo:∀k,a<k->k<i->Lo (g ys k)
 hi:∀k,j<k->k<e->¬Lo (g ys k)
theorem Pt.up{a e i j:Nat}{xs ys:List Int}{v:Int}{Lo:Int->Prop}(h:Pt a e xs ys v Lo i j)(hij:i<=j)(hl:Lo (g ys i)):Pt a e xs ys v Lo (i+1) j:=by
 have h1:=h.ai
 refine⟨h.pi,h.len,h.v,by omega,by omega,h.je,fun k h1 h2=>?_,h.hi⟩
 by_cases hk:k=i
 ·subst hk;exact hl
 ·exact h.lo k h1 (by omega)
theorem Pt.dn{a e i j:Nat}{xs ys:List Int}{v:Int}{Lo:Int->Prop}(h:Pt a e xs ys v Lo i j)(hij:i<=j)(hl:¬Lo (g ys j)):Pt a e xs ys v Lo i (j-1):=by
 have h1:=h.ai;have h2:=h.je
 refine⟨h.pi,h.len,h.v,h1,by omega,by omega,h.lo,fun k h1 h2=>?_⟩
 by_cases hk:k=j
 ·subst hk;exact hl
 ·exact h.hi k (by omega) h2
theorem Pt.sw{a e i j:Nat}{xs ys:List Int}{v:Int}{Lo:Int->Prop}(h:Pt a e xs ys v Lo i j)(hij:i<=j)(h1:¬Lo (g ys i))(h2:Lo (g ys j)):Pt a e xs (swp ys i j) v Lo (i+1) (j-1):=by
 have hne:i≠j:=fun e=>h1 (e ▸ h2)
 have hl:=h.pi.len;have h3:=h.len;have h4:=h.ai;have h5:=h.je
 refine⟨.step h.pi (by omega) (by omega) (by omega) (by omega) (by omega),h3,?_,by omega,by omega,by omega,fun k h6 h7=>?_,fun k h6 h7=>?_⟩
 ·rw[g_swo (by omega) (by omega) (by omega) (by omega)];exact h.v
 ·by_cases hk:k=i
  ·subst hk;rw[g_swl (by omega) (by omega)];exact h2
  ·rw[g_swo (by omega) (by omega) (by omega) (by omega)];exact h.lo k h6 (by omega)
 ·by_cases hk:k=j
  ·subst hk;rw[g_swq (by omega) (by omega)];exact h1
  ·rw[g_swo (by omega) (by omega) (by omega) (by omega)];exact h.hi k (by omega) h7
theorem upPart{s:Sl}{b a e i j:Nat}{w:World}{xs ys:List Int}{v:Int}{y:Int->World->Prop}(hP:Pt a e xs ys v (fun x=>x<v) i j)(hA:Ar s b w.heap ys)
  (hy:∀(i':Nat)(w':World),Pt a e xs ys v (fun x=>x<v) i' j->(j<i'\/¬g ys i'<v)->i<=i'->Ext w w'->y (i':Int) w'):
  ∃y14:Nat->Int->World->Prop,(∃b15,y14 b15 (i:Int) w)/\∀(b16:Nat)(n17:Int)(w18:World)(_:Nat->Value),y14 b16 n17 w18->IfB (decide (n17<=(j:Int))) (F265k2 s n17 w18 a b16 y14 y) (([]:List Nat)=[]/\y n17 w18.drew):=by
 refine⟨fun n x W=>∃i':Nat,n=j+1-i'/\x=(i':Int)/\i<=i'/\Pt a e xs ys v (fun x=>x<v) i' j/\Ext w W,⟨_,i,rfl,rfl,Nat.le_refl _,hP,Ch.refl _ _⟩,?_⟩
 rintro _ _ W _ ⟨i',rfl,rfl,hii,hP',hW⟩
 have hl:=hP'.pi.len;have h3:=hP'.len;have h4:=hP'.ai;have h5:=hP'.je;have h6:=hA.2.2.1
 have hd:=hW.trans (extDrew W)
 refine IfB.dec (fun hle=>?_) (fun hgt=>⟨rfl,hy i' _ hP' (.inl (by omega)) hii hd⟩)
 have hle:i'<=j:=by omega
 refine ls (w:=W.drew) (hA.ch hd id) (by omega) (by omega) (by omega) (by omega) (IfB.dec (fun hl1=>?_) (fun hl1=>⟨rfl,hy i' _ hP' (.inr ?_) hii hd⟩))
 ·rw[Int.toNat_natCast,Int.toNat_natCast,hP'.v] at hl1
  exact⟨rfl,_,by omega,i'+1,rfl,wp1 (by omega),by omega,hP'.up hle hl1,hd⟩
 ·rw[Int.toNat_natCast,Int.toNat_natCast,hP'.v] at hl1;exact hl1
theorem dnPart{s:Sl}{b a e i j:Nat}{w:World}{xs ys:List Int}{v:Int}{y:Int->World->Prop}(hP:Pt a e xs ys v (fun x=>x<v) i j)(hA:Ar s b w.heap ys)
  (hy:∀(j':Nat)(w':World),Pt a e xs ys v (fun x=>x<v) i j'->(j'<i\/g ys j'<v)->j'<=j->Ext w w'->y (j':Int) w'):
  ∃y14:Nat->Int->World->Prop,(∃b15,y14 b15 (j:Int) w)/\∀(b16:Nat)(n17:Int)(w18:World)(_:Nat->Value),y14 b16 n17 w18->IfB (decide ((i:Int)<=n17)) (F265k1 s n17 w18 a b16 y14 y) (([]:List Nat)=[]/\y n17 w18.drew):=by
 refine⟨fun n x W=>∃j':Nat,j'=n/\x=(j':Int)/\j'<=j/\Pt a e xs ys v (fun x=>x<v) i j'/\Ext w W,⟨_,j,rfl,rfl,Nat.le_refl _,hP,Ch.refl _ _⟩,?_⟩
 rintro _ _ W _ ⟨j',rfl,rfl,hjj,hP',hW⟩
 have hl:=hP'.pi.len;have h3:=hP'.len;have h4:=hP'.ai;have h5:=hP'.je;have h6:=hA.2.2.1
 have hd:=hW.trans (extDrew W)
 refine IfB.dec (fun hle=>?_) (fun hgt=>⟨rfl,hy j' _ hP' (.inl (by omega)) hjj hd⟩)
 have hle:i<=j':=by omega
 refine ls (w:=W.drew) (hA.ch hd id) (by omega) (by omega) (by omega) (by omega) (IfB.intro (fun hl1=>?_) (fun hl1=>⟨rfl,hy j' _ hP' (.inr ?_) hjj hd⟩))
 ·simp only[Int.toNat_natCast,hP'.v,Bool.not_eq_true',decide_eq_false_iff_not] at hl1
  exact⟨rfl,j'-1,by omega,j'-1,rfl,wm1 (by omega) (by omega),by omega,hP'.dn hle hl1,hd⟩
 ·simp only[Int.toNat_natCast,hP'.v,Bool.not_eq_false',decide_eq_true_eq] at hl1;exact hl1
theorem c265{s:Sl}{b:Nat}{w:World}{xs:List Int}{a e p:Nat}(h:Ar s b w.heap xs)(he:e<=xs.length)(hp:a<=p/\p<e):
  Cw 265 #[slV s,iv a,iv e,iv p] w fun v w'=>∃(m:Nat)(t:Bool),v=.tuple #[iv m,.bool t]/\(a<=m/\m<e)/\∃ys,PI a e xs ys/\(∀k,a<=k->k<m->g ys k<g ys m)/\(∀k,m<k->k<e->g ys m<=g ys k)/\Ar s b w'.heap ys/\CB b w w':=by
 have hl:=h.2.2.1
 refine F265_ok s a e p w _ ?_
 have hCd:CB b w w.drew:=(extDrew w).mono fun _ _ h=>h.elim
 refine sw (w:=w.drew) h (by omega) (by omega) (by omega) (by omega) fun w12 h12 C12=>?_
 rw[Int.toNat_natCast,Int.toNat_natCast] at h12
 have C12:=hCd.trans C12
 have hP0:Pt a e xs (swp xs a p) (g (swp xs a p) a) (fun x=>x<g (swp xs a p) a) (a+1) (e-1):=
  ⟨.step .refl (by omega) (by omega) (by omega) (by omega) he,he,rfl,by omega,by omega,by omega,fun k h1 h2=>by omega,fun k h1 h2=>by omega⟩
 generalize swp xs a p=ys0 at hP0 h12
 generalize g ys0 a=v at hP0
 have fin:∀ {ys:List Int}{j:Nat}{W:World}{t:Bool},Pt a e xs ys v (fun x=>x<v) (j+1) j->Ar s b W.heap ys->CB b w W->
   ∀W2:World,Ar s b W2.heap (swp ys j a)->CB b W W2->∃(m:Nat)(t':Bool),Value.tuple #[iv j,.bool t]=.tuple #[iv m,.bool t']/\(a<=m/\m<e)/\∃ys,PI a e xs ys/\(∀k,a<=k->k<m->g ys k<g ys m)/\(∀k,m<k->k<e->g ys m<=g ys k)/\Ar s b W2.heap ys/\CB b w W2:=by
  intro ys j W t hP hA hC W2 hA2 hC2
  have hyl:=hP.pi.len;have h4:=hP.ai;have h5:=hP.je
  have gj:g (swp ys j a) j=v:=by rw[g_swl (by omega) (by omega)];exact hP.v
  refine⟨j,t,rfl,by omega,_,.step hP.pi (by omega) (by omega) (by omega) (by omega) (by omega),fun k h1 h2=>?_,fun k h1 h2=>?_,hA2,hC.trans hC2⟩
  ·rw[gj]
   by_cases hk:k=a
   ·subst hk;rw[g_swq (by omega) (by omega)];exact hP.lo j (by omega) (by omega)
   ·rw[g_swo (by omega) (by omega) (by omega) (by omega)];exact hP.lo k (by omega) (by omega)
  ·rw[gj,g_swo (by omega) (by omega) (by omega) (by omega)]
   have:=hP.hi k h1 h2
   omega
 refine⟨fun x W=>∃i:Nat,x=(i:Int)/\Pt a e xs ys0 v (fun x=>x<v) i (e-1)/\(e-1<i\/¬g ys0 i<v)/\Ar s b W.heap ys0/\CB b w W,?_,?_⟩
 ·unfold F265j1
  rw[wp1 (by omega),wm1 (by omega) (by omega)]
  exact upPart hP0 h12 fun i' w' h1 h2 _ h3=>⟨i',rfl,h1,h2,h12.ch h3 id,C12.then h3 fun _ _ h=>h.elim⟩
 rintro _ W _ ⟨i,rfl,hP,hi,hA,hC⟩
 refine⟨fun x W'=>∃j:Nat,x=(j:Int)/\Pt a e xs ys0 v (fun x=>x<v) i j/\(j<i\/g ys0 j<v)/\(j<i\/¬g ys0 i<v)/\Ar s b W'.heap ys0/\CB b w W',?_,?_⟩
 ·unfold F265j3
  rw[wm1 (by omega) (by omega)]
  exact dnPart hP hA fun j' w' h1 h2 h3 h4=>⟨j',rfl,h1,h2,by omega,hA.ch h4 id,hC.then h4 fun _ _ h=>h.elim⟩
 rintro _ W1 _ ⟨j,rfl,hP1,hj1,hj2,hA1,hC1⟩
 have hyl:=hP1.pi.len;have h4:=hP1.ai;have h5:=hP1.je;have h6:=hP1.ij
 have hC1d:CB b w W1.drew:=hC1.then (extDrew W1) fun _ _ h=>h.elim
 unfold F265j4
 refine IfB.dec (fun hlt=>?_) (fun hge=>?_)
 ·have hij:i=j+1:=by omega
  subst hij
  refine sw (w:=W1.drew) hA1 (by omega) (by omega) (by omega) (by omega) fun W2 h2 C2=>?_
  rw[Int.toNat_natCast,Int.toNat_natCast] at h2
  exact fin (W:=W1.drew) hP1 hA1 hC1d W2 h2 C2
 ·have hij:i<=j:=by omega
  refine sw (w:=W1.drew) hA1 (by omega) (by omega) (by omega) (by omega) fun W2 h2 C2=>?_
  rw[Int.toNat_natCast,Int.toNat_natCast] at h2
  have hP2:=hP1.sw hij (by omega) (by omega)
  have C2:=hC1d.trans C2
  refine⟨fun n x W=>∃(i j:Nat)(ys:List Int),n=j+1-i/\x=((i:Int),(j:Int))/\Pt a e xs ys v (fun x=>x<v) i j/\Ar s b W.heap ys/\CB b w W,⟨_,i+1,j-1,_,rfl,by rw[wp1 (by omega),wm1 (by omega) (by omega)],hP2,h2,C2⟩,?_⟩
  rintro _ _ W3 _ ⟨i3,j3,ys3,rfl,rfl,hP3,hA3,hC3⟩
  unfold F265j5
  refine⟨fun x W=>∃i:Nat,x=(i:Int)/\i3<=i/\Pt a e xs ys3 v (fun x=>x<v) i j3/\(j3<i\/¬g ys3 i<v)/\Ar s b W.heap ys3/\CB b w W,?_,?_⟩
  ·exact upPart hP3 hA3 fun i' w' h1 h2 h3 h4=>⟨i',rfl,h3,h1,h2,hA3.ch h4 id,hC3.then h4 fun _ _ h=>h.elim⟩
  rintro _ W4 _ ⟨i4,rfl,hi34,hP4,hi4,hA4,hC4⟩
  refine⟨fun x W'=>∃j:Nat,x=(j:Int)/\j<=j3/\Pt a e xs ys3 v (fun x=>x<v) i4 j/\(j<i4\/g ys3 j<v)/\(j<i4\/¬g ys3 i4<v)/\Ar s b W'.heap ys3/\CB b w W',?_,?_⟩
  ·exact dnPart hP4 hA4 fun j' w' h1 h2 h3 h4=>⟨j',rfl,h3,h1,h2,by omega,hA4.ch h4 id,hC4.then h4 fun _ _ h=>h.elim⟩
  rintro _ W5 _ ⟨j5,rfl,hj5,hP5,hj51,hj52,hA5,hC5⟩
  have hyl:=hP5.pi.len;have h4:=hP5.ai;have h5:=hP5.je;have h6:=hP5.ij
  have hC5d:CB b w W5.drew:=hC5.then (extDrew W5) fun _ _ h=>h.elim
  unfold F265j9
  refine IfB.dec (fun hlt=>?_) (fun hge=>?_)
  ·have hij:i4=j5+1:=by omega
   subst hij
   refine sw (w:=W5.drew) hA5 (by omega) (by omega) (by omega) (by omega) fun W6 h6 C6=>?_
   rw[Int.toNat_natCast,Int.toNat_natCast] at h6
   exact fin (W:=W5.drew) hP5 hA5 hC5d W6 h6 C6
  ·have hij:i4<=j5:=by omega
   refine sw (w:=W5.drew) hA5 (by omega) (by omega) (by omega) (by omega) fun W6 h6 C6=>?_
   rw[Int.toNat_natCast,Int.toNat_natCast] at h6
   exact⟨rfl,_,by omega,i4+1,j5-1,_,rfl,by rw[wp1 (by omega),wm1 (by omega) (by omega)],hP5.sw hij (by omega) (by omega),h6,hC5d.trans C6⟩
theorem c264{s:Sl}{b:Nat}{w:World}{xs:List Int}{a e p:Nat}(h:Ar s b w.heap xs)(he:e<=xs.length)(hp:a<=p/\p<e):
  Cw 264 #[slV s,iv a,iv e,iv p] w fun v w'=>∃m:Nat,v=iv m/\(a<m/\m<=e)/\∃ys,PI a e xs ys/\g ys a=g xs p/\(∀k,a<=k->k<m->¬g xs p<g ys k)/\(∀k,m<=k->k<e->g xs p<g ys k)/\Ar s b w'.heap ys/\CB b w w':=by
 have hl:=h.2.2.1
 refine F264_ok s a e p w _ ?_
 have hCd:CB b w w.drew:=(extDrew w).mono fun _ _ h=>h.elim
 refine sw (w:=w.drew) h (by omega) (by omega) (by omega) (by omega) fun w12 h12 C12=>?_
 rw[Int.toNat_natCast,Int.toNat_natCast] at h12
 have C12:=hCd.trans C12
 have hv:g (swp xs a p) a=g xs p:=g_swl (by omega) (by omega)
 have hP0:Pt a e xs (swp xs a p) (g xs p) (fun x=>¬g xs p<x) (a+1) (e-1):=
  ⟨.step .refl (by omega) (by omega) (by omega) (by omega) he,he,hv,by omega,by omega,by omega,fun k h1 h2=>by omega,fun k h1 h2=>by omega⟩
 generalize swp xs a p=ys0 at hP0 h12
 clear hv
 generalize g xs p=v at hP0
 refine⟨fun n x W=>∃(i j:Nat)(ys:List Int),n=j+1-i/\x=((i:Int),(j:Int))/\Pt a e xs ys v (fun x=>¬v<x) i j/\Ar s b W.heap ys/\CB b w W,⟨_,a+1,e-1,_,rfl,by rw[wp1 (by omega),wm1 (by omega) (by omega)],hP0,h12,C12⟩,?_⟩
 rintro _ _ W3 _ ⟨i3,j3,ys3,rfl,rfl,hP3,hA3,hC3⟩
 unfold F264j1
 refine⟨fun x W=>∃i:Nat,x=(i:Int)/\i3<=i/\Pt a e xs ys3 v (fun x=>¬v<x) i j3/\(j3<i\/v<g ys3 i)/\Ar s b W.heap ys3/\CB b w W,?_,?_⟩
 ·refine⟨fun n x W=>∃i:Nat,n=j3+1-i/\x=(i:Int)/\i3<=i/\Pt a e xs ys3 v (fun x=>¬v<x) i j3/\Ar s b W.heap ys3/\CB b w W,⟨_,i3,rfl,rfl,Nat.le_refl _,hP3,hA3,hC3⟩,?_⟩
  rintro _ _ W _ ⟨i,rfl,rfl,hii,hP,hA,hC⟩
  have hyl:=hP.pi.len;have h4:=hP.ai;have h5:=hP.je;have h6:=hP.ij
  have hd:CB b w W.drew:=hC.then (extDrew W) fun _ _ h=>h.elim
  unfold F264j2
  refine IfB.dec (fun hle=>?_) (fun hgt=>⟨rfl,i,rfl,hii,hP,.inl ?_,hA,hd⟩)
  ·have hle:i<=j3:=by
    have:(i:Int)<=(j3:Int):=hle
    omega
   refine ls (w:=W.drew) hA (by omega) (by omega) (by omega) (by omega) (IfB.intro (fun hl1=>?_) (fun hl1=>⟨rfl,i,rfl,hii,hP,.inr ?_,hA,hd⟩))
   ·simp only[Int.toNat_natCast,hP.v,Bool.not_eq_true',decide_eq_false_iff_not] at hl1
    exact⟨rfl,_,by omega,i+1,rfl,wp1 (by omega),by omega,hP.up hle hl1,hA,hd⟩
   ·simp only[Int.toNat_natCast,hP.v,Bool.not_eq_false',decide_eq_true_eq] at hl1;exact hl1
  ·have:¬(i:Int)<=(j3:Int):=hgt
   omega
 rintro _ W4 _ ⟨i4,rfl,hi34,hP4,hi4,hA4,hC4⟩
 refine⟨fun x W'=>∃j:Nat,x=(j:Int)/\j<=j3/\Pt a e xs ys3 v (fun x=>¬v<x) i4 j/\(j<i4\/¬v<g ys3 j)/\(j<i4\/v<g ys3 i4)/\Ar s b W'.heap ys3/\CB b w W',?_,?_⟩
 ·refine⟨fun n x W=>∃j:Nat,j=n/\x=(j:Int)/\j<=j3/\Pt a e xs ys3 v (fun x=>¬v<x) i4 j/\(j<i4\/v<g ys3 i4)/\Ar s b W.heap ys3/\CB b w W,⟨_,j3,rfl,rfl,Nat.le_refl _,hP4,by omega,hA4,hC4⟩,?_⟩
  rintro _ _ W _ ⟨j,rfl,rfl,hjj,hP,hi,hA,hC⟩
  have hyl:=hP.pi.len;have h4:=hP.ai;have h5:=hP.je;have h6:=hP.ij
  have hd:CB b w W.drew:=hC.then (extDrew W) fun _ _ h=>h.elim
  unfold F264j4
  refine IfB.dec (fun hle=>?_) (fun hgt=>⟨rfl,j,rfl,hjj,hP,.inl (by omega),hi,hA,hd⟩)
  have hle:i4<=j:=by omega
  refine ls (w:=W.drew) hA (by omega) (by omega) (by omega) (by omega) (IfB.dec (fun hl1=>?_) (fun hl1=>⟨rfl,j,rfl,hjj,hP,.inr ?_,hi,hA,hd⟩))
  ·rw[Int.toNat_natCast,Int.toNat_natCast,hP.v] at hl1
   exact⟨rfl,j-1,by omega,j-1,rfl,wm1 (by omega) (by omega),by omega,hP.dn hle (by omega),by omega,hA,hd⟩
  ·rw[Int.toNat_natCast,Int.toNat_natCast,hP.v] at hl1;exact hl1
 rintro _ W5 _ ⟨j5,rfl,hj5,hP5,hj51,hj52,hA5,hC5⟩
 have hyl:=hP5.pi.len;have h4:=hP5.ai;have h5:=hP5.je;have h6:=hP5.ij
 have hC5d:CB b w W5.drew:=hC5.then (extDrew W5) fun _ _ h=>h.elim
 unfold F264j5
 refine IfB.dec (fun hlt=>?_) (fun hge=>?_)
 ·refine⟨i4,rfl,by omega,ys3,hP5.pi,hP5.v,fun k h1 h2=>?_,fun k h1 h2=>?_,hA5,hC5⟩
  ·by_cases hk:k=a
   ·subst hk;rw[hP5.v];omega
   ·exact hP5.lo k (by omega) h2
  ·have:=hP5.hi k (by omega) h2
   omega
 ·have hij:i4<=j5:=by omega
  refine sw (w:=W5.drew) hA5 (by omega) (by omega) (by omega) (by omega) fun W6 h6 C6=>?_
  rw[Int.toNat_natCast,Int.toNat_natCast] at h6
  exact⟨rfl,_,by omega,i4+1,j5-1,_,rfl,by rw[wp1 (by omega),wm1 (by omega) (by omega)],hP5.sw hij (by omega) (by omega),h6,hC5d.trans C6⟩
theorem CB.drew{b:Nat}{w W:World}(h:CB b w W):CB b w W.drew:=Ch.then h (extDrew W) fun _ _ h=>h.elim
theorem c262{s:Sl}{b:Nat}{w:World}{xs:List Int}{a e:Nat}(h:Ar s b w.heap xs)(he:e<=xs.length)(ha:a<e)(hb:0<a->∀k,a<=k->k<e->g xs (a-1)<=g xs k):
  Cw 262 #[slV s,iv a,iv e] w fun v w'=>∃t,v=.bool t/\∃ys,PI a e xs ys/\(t=true->SO ys a e)/\Ar s b w'.heap ys/\CB b w w':=by
 have hl:=h.2.2.1
 have lb:∀ {ys},PI a e xs ys->0<a->∀k,a<=k->k<e->g ys (a-1)<=g ys k:=fun{ys} hP h0 k h1 h2=>by
  rw[hP.out (.inl (by omega))]
  exact hP.all (Q:=fun v=>g xs (a-1)<=v) (fun i h3 h4=>hb h0 i h3 h4) k h1 h2
 refine F262_ok s a e w _ ⟨fun n x W=>∃(i j:Nat)(ys:List Int),n=5-j/\x=((i:Int),(j:Int))/\j<=5/\(a+1<=i/\i<=e)/\PI a e xs ys/\SO ys a i/\Ar s b W.heap ys/\CB b w W,⟨_,a+1,0,xs,rfl,by rw[wp1 (by omega)];rfl,by omega,by omega,.refl,fun p q _ _ _=>by omega,h,Ch.refl _ _⟩,?_⟩
 rintro _ _ W _ ⟨i0,j0,ys,rfl,rfl,hj0,hi0,hP,hS0,hA,hC⟩
 have hyl:=hP.len
 refine IfB.dec (fun hlt=>?_) (fun hge=>⟨false,rfl,ys,hP,(fun h=>by cases h),hA,hC⟩)
 have hj5:j0<5:=by
  have:(j0:Int)<5:=hlt
  omega
 refine⟨fun x W=>∃i:Nat,x=(i:Int)/\(a+1<=i/\i<=e)/\SO ys a i/\Ar s b W.heap ys/\CB b w W,?_,?_⟩
 ·refine⟨fun n x W=>∃i:Nat,n=e-i/\x=(i:Int)/\(a+1<=i/\i<=e)/\SO ys a i/\Ar s b W.heap ys/\CB b w W,⟨_,i0,rfl,rfl,hi0,hS0,hA,hC⟩,?_⟩
  rintro _ _ W1 _ ⟨i,rfl,rfl,hi,hS,hA1,hC1⟩
  unfold F262j2
  refine IfB.dec (fun hlt=>?_) (fun hge=>⟨rfl,i,rfl,hi,hS,hA1,hC1.drew⟩)
  rw[wm1 (by omega) (by omega)]
  refine ls (w:=W1.drew) hA1 (by omega) (by omega) (by omega) (by omega) (IfB.intro (fun hl1=>?_) (fun hl1=>⟨rfl,i,rfl,hi,hS,hA1,hC1.drew⟩))
  simp only[Int.toNat_natCast,Bool.not_eq_true',decide_eq_false_iff_not] at hl1
  refine⟨rfl,_,by omega,i+1,rfl,wp1 (by omega),by omega,fun p q h1 h2 h3=>?_,hA1,hC1.drew⟩
  by_cases hq:q=i
  ·subst hq
   by_cases hp:p=q-1
   ·subst hp;omega
   ·have:=hS p (q-1) h1 (by omega) (by omega)
    omega
  ·exact hS p q h1 h2 (by omega)
 rintro _ W2 _ ⟨i,rfl,hi,hS,hA2,hC2⟩
 unfold F262j3
 refine IfB.intro (fun hi3=>?_) (fun hi3=>?_)
 ·have hi3:(i:Int)=(e:Int):=by simpa using hi3
  have:i=e:=by omega
  subst this
  exact⟨true,rfl,ys,hP,fun _=>hS,hA2,hC2⟩
 have hie:i<e:=by
  have:(i:Int)≠(e:Int):=by simpa using hi3
  omega
 rw[wsb (by omega) (by omega)]
 refine @IfB.dec (((e-a:Nat):Int)<(50:Int)) _ _ _ (fun _=>⟨false,rfl,ys,hP,(fun h=>by cases h),hA2,hC2⟩) (fun _=>?_)
 rw[wm1 (by omega) (by omega)]
 refine sw (w:=W2.drew) hA2 (by omega) (by omega) (by omega) (by omega) fun W3 hA3 hC3=>?_
 rw[Int.toNat_natCast,Int.toNat_natCast] at hA3
 have hP3:PI a e xs (swp ys i (i-1)):=.step hP (by omega) (by omega) (by omega) (by omega) (by omega)
 have hC3:=(CB.drew hC2).trans hC3
 rw[wsb (by omega) (by omega)]
 refine⟨fun _ W=>∃zs,PI a e xs zs/\SO zs a i/\Ar s b W.heap zs/\CB b w W,?_,?_⟩
 ·refine IfB.dec (fun h2=>?_) (fun h2=>⟨rfl,_,hP3,fun p q _ _ _=>by omega,hA3,hC3⟩)
  refine⟨fun n x W=>∃(j:Nat)(zs:List Int),j=n/\x=(j:Int)/\(a<=j/\j<=i-1)/\PI a e xs zs/\(∀p q,a<=p->p<q->q<i->q≠j->g zs p<=g zs q)/\Ar s b W.heap zs/\CB b w W,⟨_,i-1,_,rfl,rfl,by omega,hP3,fun p q h1 h2 h3 h4=>?_,hA3,hC3⟩,?_⟩
  ·rw[g_swo (by omega) (by omega) (by omega) (by omega),g_swo (by omega) (by omega) (by omega) (by omega)]
   exact hS p q h1 h2 h3
  rintro _ _ W4 _ ⟨j,zs,rfl,rfl,hj,hP4,hS4,hA4,hC4⟩
  have hzl:=hP4.len
  unfold F262j4
  refine IfB.dec (fun hj1=>?_) (fun hj1=>⟨rfl,zs,hP4,fun p q h1 h2 h3=>hS4 p q h1 h2 h3 (by omega),hA4,hC4⟩)
  rw[wm1 (by omega) (by omega)]
  refine ls (w:=W4.drew) hA4 (by omega) (by omega) (by omega) (by omega) (IfB.intro (fun hl1=>?_) (fun hl1=>?_))
  ·simp only[Int.toNat_natCast,Bool.not_eq_true',decide_eq_false_iff_not] at hl1
   refine⟨rfl,zs,hP4,fun p q h1 h2 h3=>?_,hA4,hC4.drew⟩
   by_cases hq:q=j
   ·subst hq
    by_cases hp:p=q-1
    ·subst hp;omega
    ·have:=hS4 p (q-1) h1 (by omega) (by omega) (by omega)
     omega
   ·exact hS4 p q h1 h2 h3 hq
  ·simp only[Int.toNat_natCast,Bool.not_eq_false',decide_eq_true_eq] at hl1
   have haj:a<j:=by
    rcases Nat.lt_or_ge a j with h|h
    ·exact h
    ·have:a=j:=by omega
     subst this
     have:=lb hP4 (by omega) a (Nat.le_refl _) (by omega)
     omega
   refine sw (w:=W4.drew.drew) hA4 (by omega) (by omega) (by omega) (by omega) fun W5 hA5 hC5=>?_
   rw[Int.toNat_natCast,Int.toNat_natCast] at hA5
   refine⟨rfl,j-1,by omega,j-1,_,rfl,rfl,by omega,.step hP4 (by omega) (by omega) (by omega) (by omega) (by omega),fun p q h1 h2 h3 h4=>?_,hA5,(CB.drew (CB.drew hC4)).trans hC5⟩
   rw[g_swp (by omega) (by omega),g_swp (by omega) (by omega)]
   have A1:=hS4 p (j-1) h1
   have A2:=hS4 p q h1 h2 h3
   have A3:=hS4 j q (by omega)
   have A4:=hS4 (j-1) q (by omega)
   split<;>split<;>(try split)<;>(try split)<;>first|omega|skip
 rintro _ W6 _ ⟨zs,hP6,hS6,hA6,hC6⟩
 have hzl:=hP6.len
 have next:∀ {us:List Int}{W:World},PI a e xs us->SO us a i->Ar s b W.heap us->CB b w W->([]:List Nat)=[]/\∃b112,b112<5-j0/\∃(i' j':Nat)(ys:List Int),b112=5-j'/\((i:Int),IntKind.i64.wrap ((j0:Int)+(1:Int)))=((i':Int),(j':Int))/\j'<=5/\(a+1<=i'/\i'<=e)/\PI a e xs ys/\SO ys a i'/\Ar s b W.heap ys/\CB b w W:=
  fun h1 h2 h3 h4=>⟨rfl,5-(j0+1),by omega,i,j0+1,_,rfl,by rw[wp1 (by omega)],by omega,by omega,h1,h2,h3,h4⟩
 unfold F262j5
 refine⟨fun t W=>W=W6,⟨rfl,rfl⟩,?_⟩
 rintro t _ _ rfl
 refine IfB.intro (fun _=>?_) (fun _=>next hP6 hS6 hA6 hC6)
 refine⟨fun n x W=>∃(j:Nat)(us:List Int),n=e-j/\x=(j:Int)/\(i+1<=j/\j<=e)/\PI a e xs us/\SO us a i/\Ar s b W.heap us/\CB b w W,⟨_,i+1,zs,rfl,wp1 (by omega),by omega,hP6,hS6,hA6,hC6⟩,?_⟩
 rintro _ _ W7 _ ⟨j,us,rfl,rfl,hj,hP7,hS7,hA7,hC7⟩
 have hul:=hP7.len
 unfold F262j7
 refine IfB.dec (fun hlt=>?_) (fun _=>next hP7 hS7 hA7 hC7)
 rw[wm1 (by omega) (by omega)]
 refine ls (w:=W7.drew) hA7 (by omega) (by omega) (by omega) (by omega) (IfB.intro (fun _=>next hP7 hS7 hA7 hC7.drew) (fun _=>?_))
 refine sw (w:=W7.drew.drew) hA7 (by omega) (by omega) (by omega) (by omega) fun W8 hA8 hC8=>?_
 rw[Int.toNat_natCast,Int.toNat_natCast] at hA8
 refine⟨rfl,_,by omega,j+1,_,rfl,wp1 (by omega),by omega,.step hP7 (by omega) (by omega) (by omega) (by omega) (by omega),fun p q h1 h2 h3=>?_,hA8,(CB.drew (CB.drew hC7)).trans hC8⟩
 rw[g_swo (by omega) (by omega) (by omega) (by omega),g_swo (by omega) (by omega) (by omega) (by omega)]
 exact hS7 p q h1 h2 h3
theorem tab_all:((List.range 256).all fun i=>match GxLSby0[i]? with|some y=>decide (i<2^y.toNat)&&(decide (i=0)||decide (2^(y.toNat-1)<=i))&&decide (y.toNat<=8)&&(decide (i=0)||decide (1<=y.toNat))|none=>false)=true:=by kernel_rfl
theorem tab_get{i:Nat}(hi:i<256):∃y,GxLSby0[i]? =some y/\i<2^y.toNat/\(0<i->2^(y.toNat-1)<=i/\1<=y.toNat)/\y.toNat<=8:=by
 have h:=List.all_eq_true.1 tab_all i (List.mem_range.2 hi)
 cases hy:GxLSby0[i]? with
 | none=>rw[hy] at h;cases h
 | some y=>
  rw[hy] at h
  simp only[Bool.and_eq_true,Bool.or_eq_true,decide_eq_true_eq] at h
  exact⟨y,rfl,h.1.1.1,fun h0=>⟨by omega,by omega⟩,h.1.2⟩
theorem wu8{i:Nat}(h:i<256):IntKind.u8.wrap (i:Int)=(i:Int):=by
 unfold IntKind.wrap;simp[IntKind.signed,IntKind.bits];omega
def LenIs(x L:Nat):Prop:=x<2^L/\(0<x->2^(L-1)<=x/\1<=L)/\L<=24
theorem LenIs.shift{x L k:Nat}(h:LenIs (x/2^k) L)(h0:0<x/2^k)(hL:L+k<=24):LenIs x (k+L):=by
 obtain⟨h1,h2,h3⟩:=h
 obtain⟨h4,h5⟩:=h2 h0
 have hp:0<2^k:=Nat.pow_pos (by decide)
 refine⟨?_,fun _=>⟨?_,by omega⟩,by omega⟩
 ·rw[Nat.pow_add,Nat.mul_comm];exact(Nat.div_lt_iff_lt_mul hp).1 h1
 ·rw[show k+L-1=(L-1)+k by omega,Nat.pow_add]
  exact(Nat.le_div_iff_mul_le hp).1 h4
theorem fdv{x k:Nat}{n:Int}(hk:min (Int.toNat n) IntKind.u64.bits=k):(x:Int).fdiv ((2:Int)^min (Int.toNat n) IntKind.u64.bits)=((x/2^k:Nat):Int):=by
 rw[hk,Int.fdiv_eq_ediv_of_nonneg _ (Int.pow_nonneg (by decide))]
 simp
theorem c213{x:Nat}(hx:x<=1000000)(w:World):Cw 213 #[.int .u64 x] w fun v w'=>∃L:Nat,v=iv L/\LenIs x L/\w=w':=by
 refine F213_ok _ _ _ (IfB.no (decide_eq_false (by omega)) (IfB.dec (fun h1=>⟨by decide,?_⟩) (fun h1=>IfB.dec (fun h2=>?_) (fun h2=>?_))))
 ·rw[fdv (n:=(16:Int)) (k:=16) rfl]
  refine IfB.no (decide_eq_false (by omega)) ?_
  unfold F213k3
  rw[fdv (n:=(16:Int)) (k:=16) rfl,wu8 (by omega)]
  obtain⟨y,hy,h3,h4,h5⟩:=tab_get (i:=x/2^16) (by omega)
  refine⟨y,by omega,by rw[Int.toNat_natCast];exact hy,16+y.toNat,?_,LenIs.shift ⟨h3,h4,by omega⟩ (by omega) (by omega),rfl⟩
  rw[wrap_of (n:=((y.toNat:Nat):Int)) (by omega) (by omega),wrap_of (n:=(0:Int)+16) (by omega) (by omega),wrap_of (by omega) (by omega)];rfl
 ·unfold F213k4
  rw[fdv (n:=(8:Int)) (k:=8) rfl,wu8 (by omega)]
  obtain⟨y,hy,h3,h4,h5⟩:=tab_get (i:=x/2^8) (by omega)
  refine⟨by decide,y,by omega,by rw[Int.toNat_natCast];exact hy,8+y.toNat,?_,LenIs.shift ⟨h3,h4,by omega⟩ (by omega) (by omega),rfl⟩
  rw[wrap_of (n:=((y.toNat:Nat):Int)) (by omega) (by omega),wrap_of (n:=(0:Int)+8) (by omega) (by omega),wrap_of (by omega) (by omega)];rfl
 ·unfold F213k1
  rw[wu8 (by omega)]
  obtain⟨y,hy,h3,h4,h5⟩:=tab_get (i:=x) (by omega)
  refine⟨y,by omega,by rw[Int.toNat_natCast];exact hy,y.toNat,?_,⟨h3,h4,by omega⟩,rfl⟩
  rw[wrap_of (n:=((y.toNat:Nat):Int)) (by omega) (by omega),wrap_of (by omega) (by omega)];simp
theorem c156{x:Nat}(hx:x<=1000000)(w:World):Cw 156 #[.int .u64 x] w fun v w'=>∃L:Nat,v=iv L/\LenIs x L/\w=w':=by
 refine F156_ok _ _ _ ((c213 hx w).use ?_)
 rintro _ _ ⟨L,rfl,hL,rfl⟩
 exact⟨_,rfl,L,rfl,hL,rfl⟩
theorem wu64{i:Nat}(h:i<2^64):IntKind.u64.wrap (i:Int)=(i:Int):=by
 unfold IntKind.wrap;simp[IntKind.signed,IntKind.bits];omega
theorem c243{x:Nat}(hx:x<=1000000)(w:World):Cw 243 #[iv x] w fun v w'=>∃L:Nat,v=.int .u64 ((2^L:Nat):Int)/\LenIs x L/\w=w':=by
 refine F243_ok _ _ _ ?_
 unfold F243
 rw[wu64 (by omega)]
 refine(c156 hx w).use ?_
 rintro _ _ ⟨L,rfl,hL,rfl⟩
 refine⟨_,rfl,by omega,L,?_,hL,rfl⟩
 have h24:=hL.2.2
 rw[Int.toNat_natCast,show min L IntKind.u64.bits=L from Nat.min_eq_left (by show L<=64;omega),Int.one_mul]
 have:2^L<2^64:=Nat.pow_lt_pow_right (by decide) (by omega)
 rw[<-wu64 this];simp
theorem c244{b1:Nat}{w:World}(h:Ct .u64 b1 w):Cw 244 #[.pointer (some ⟨b1,0,none⟩)] w fun v w'=>∃n,v=.int .u64 n/\Ct .u64 b1 w'/\Ch (fun q=>q=b1) w w':=by
 obtain⟨T,n,hn⟩:=h
 refine F244_ok _ w _ ⟨b1,0,rfl,n,by rw[cell_of (w:=w.drew) hn];rfl,b1,0,rfl,n,by rw[cell_of (w:=w.drew) hn];rfl,by decide,b1,0,rfl,rfl,store_one (w:=w.drew) hn (by simp) rfl fun w9 h9=>?_⟩
 have hn9:=h9.new
 refine⟨b1,0,rfl,_,by rw[cell_of (w:=w9.drew) hn9];rfl,b1,0,rfl,_,by rw[cell_of (w:=w9.drew) hn9];rfl,by decide,b1,0,rfl,rfl,store_one (w:=w9.drew) hn9 (by simp) rfl fun w18 h18=>?_⟩
 have hn18:=h18.new
 refine⟨b1,0,rfl,_,by rw[cell_of (w:=w18.drew) hn18];rfl,b1,0,rfl,_,by rw[cell_of (w:=w18.drew) hn18];rfl,by decide,b1,0,rfl,rfl,store_one (w:=w18.drew) hn18 (by simp) rfl fun w27 h27=>?_⟩
 have hn27:=h27.new
 exact⟨b1,0,rfl,_,by rw[cell_of hn27];rfl,_,rfl,⟨T,_,hn27⟩,((CB.drew (CB.drew (CB.drew (Ch.refl _ w) |>.trans h9.ch) |>.trans h18.ch)).trans h27.ch)⟩
theorem and_le{n:Int}{m:Nat}(hm:m<2^64):∃k:Nat,bitsI BinOp.and IntKind.u64 n (m:Int)=(k:Int)/\k<=m:=by
 refine⟨(BitVec.ofInt 64 n &&& BitVec.ofInt 64 (m:Int)).toNat,?_,?_⟩
 ·show IntKind.u64.wrap _=_
  exact wu64 (BitVec.isLt _)
 ·rw[BitVec.toNat_and]
  refine Nat.le_trans Nat.and_le_right ?_
  rw[BitVec.ofInt_natCast,BitVec.toNat_ofNat,Nat.mod_eq_of_lt hm]
  exact Nat.le_refl _
theorem c259{s:Sl}{b:Nat}{w:World}{xs:List Int}{a e:Nat}(h:Ar s b w.heap xs)(he:e<=xs.length)(ha:a+12<e):
  Cw 259 #[slV s,iv a,iv e] w fun v w'=>v=.tuple #[]/\∃ys,PI a e xs ys/\Ar s b w'.heap ys/\CB b w w':=by
 have hl:=h.2.2.1
 have hlt:=h.lt
 refine F259_ok s a e w _ ?_
 unfold F259
 rw[wsb (by omega) (by omega)]
 refine IfB.yes (decide_eq_true (by omega)) ?_
 intro b1 w2 h2
 have p2:=h2.here;have z2:=h2.size
 rw[wu64 (by omega)]
 refine⟨rfl,store_all h2.new rfl (by intro u hu;simp at hu;subst hu;rfl) fun w3 h3=>?_⟩
 have e3:Ext w w3:=Ext.fresh h2 h3
 have hne:b1≠b:=by omega
 refine(c243 (x:=e-a) (by omega) w3).use ?_
 rintro _ _ ⟨L,rfl,hL,rfl⟩
 have hq:IntKind.i64.wrap ((((e-a:Nat):Int)).tdiv (4:Int))=(((e-a)/4:Nat):Int):=by
  rw[Int.tdiv_eq_ediv_of_nonneg (by omega),wrap_of (by omega) (by omega)];omega
 obtain⟨hL1,hL2,hL3⟩:=hL
 obtain⟨hL4,hL5⟩:=hL2 (by omega)
 have h2L:2^L<=2*(e-a):=by
  have:2^L=2^(L-1)*2:=by rw[<-Nat.pow_succ];congr 1;omega
  omega
 have hLpos:0<2^L:=Nat.pow_pos (by decide)
 generalize 2^L=M at*
 rw[hq,wmul (k:=(2:Int)) (m:=2) rfl (by omega) (by omega),wad (by omega),wm1 (by omega) (by omega)]
 generalize hqq:(e-a)/4=q at*
 refine⟨_,rfl,by decide,fun n x W=>∃(i:Nat)(ys:List Int),n=a+q*2+2-i/\x=(i:Int)/\(a+q*2-1<=i/\i<=a+q*2+2)/\PI a e xs ys/\Ar s b W.heap ys/\Ct .u64 b1 W/\CB b w W,⟨_,_,xs,rfl,rfl,by omega,.refl,h.ch e3 id,⟨_,_,h3.new⟩,e3.mono fun _ _ h=>h.elim⟩,?_⟩
 rintro _ _ W _ ⟨i,ys,rfl,rfl,hi,hP,hA,hK,hC⟩
 have hyl:=hP.len
 unfold F259j1
 rw[wsb (by omega) (by omega),hq,wmul (k:=(2:Int)) (m:=2) rfl (by omega) (by omega),wad (by omega),wp1 (by omega)]
 refine⟨by decide,IfB.dec (fun hle=>?_) (fun hgt=>⟨rfl,ys,hP,hA,hC⟩)⟩
 refine(c244 hK).use ?_
 rintro _ w15 ⟨n16,rfl,hK2,hC2⟩
 have hA2:=hA.ch hC2 (Ne.symm hne)
 have hC3:CB b w w15:=hC.then hC2 fun j hj h=>by omega
 have hm:IntKind.u64.wrap ((M:Int)-(1:Int))=((M-1:Nat):Int):=by
  rw[show ((M:Int)-(1:Int))=((M-1:Nat):Int) by omega,wu64 (by omega)]
 obtain⟨k,hk,hkM⟩:=and_le (n:=n16) (m:=M-1) (by omega)
 refine⟨n16,rfl,fun x W=>∃t:Nat,x=(t:Int)/\t<e-a/\w15=W,?_,?_⟩
 ·rw[hm,hk,wrap_of (n:=(k:Int)) (by omega) (by omega)]
  refine IfB.dec (fun h1=>⟨rfl,k-(e-a),wsb (by omega) (by omega),by omega,rfl⟩) (fun h1=>⟨rfl,k,rfl,by omega,rfl⟩)
 rintro _ _ _ ⟨t,rfl,ht,rfl⟩
 unfold F259j2
 rw[wad (by omega)]
 refine sw (w:=w15.drew) hA2 (by omega) (by omega) (by omega) (by omega) fun W5 hA5 hC5=>?_
 rw[Int.toNat_natCast,Int.toNat_natCast] at hA5
 exact⟨rfl,_,by omega,i+1,_,rfl,wp1 (by omega),by omega,.step hP (by omega) (by omega) (by omega) (by omega) (by omega),hA5,by
  obtain⟨T,n,hn⟩:=hK2
  exact⟨T,n,hC5.at (w:=w15.drew) hn hne⟩,hC3.drew.trans hC5⟩
theorem SO.split{ys:List Int}{a m e:Nat}(h1:SO ys a m)(h2:SO ys (m+1) e)(hl:∀k,a<=k->k<m->g ys k<=g ys m)(hr:∀k,m<k->k<e->g ys m<=g ys k):SO ys a e:=by
 intro p q hp hpq hq
 rcases Nat.lt_trichotomy p m with h|h|h
 ·rcases Nat.lt_trichotomy q m with k|k|k
  ·exact h1 p q hp hpq k
  ·subst k;exact hl p hp h
  ·have:=hl p hp h;have:=hr q k hq;omega
 ·subst h;exact hr q hpq hq
 ·exact h2 p q (by omega) hpq hq
theorem PI.trans'{a b a' b':Nat}{xs ys zs:List Int}(h:PI a b xs ys)(k:PI a' b' ys zs)(h1:a<=a')(h2:b'<=b)(h3:b<=xs.length):PI a b xs zs:=
 h.trans (k.mono h1 h2 (by rw[h.len];exact h3))
def LB(xs:List Int)(a e:Nat):Prop:=0<a->∀k,a<=k->k<e->g xs (a-1)<=g xs k
theorem LB.pi{xs ys:List Int}{a e:Nat}(h:LB xs a e)(hP:PI a e xs ys):LB ys a e:=fun h0 k h1 h2=>by
 rw[hP.out (.inl (by omega))]
 exact hP.all (Q:=fun v=>g xs (a-1)<=v) (fun i h3 h4=>h h0 i h3 h4) k h1 h2
def Pd(ys:List Int)(a m e:Nat):Prop:=(∀k,a<=k->k<m->g ys k<=g ys m)/\(∀k,m<k->k<e->g ys m<=g ys k)
theorem Pd.left{ys zs:List Int}{a m e:Nat}(h:Pd ys a m e)(hP:PI a m ys zs):Pd zs a m e:=by
 have em:g zs m=g ys m:=hP.out (.inr (Nat.le_refl _))
 refine⟨fun k h1 h2=>?_,fun k h1 h2=>?_⟩
 ·rw[em];exact hP.all (Q:=fun v=>v<=g ys m) (fun i h3 h4=>h.1 i h3 h4) k h1 h2
 ·rw[em,hP.out (.inr (by omega))];exact h.2 k h1 h2
theorem Pd.right{ys zs:List Int}{a m e:Nat}(h:Pd ys a m e)(hP:PI (m+1) e ys zs):Pd zs a m e:=by
 have em:g zs m=g ys m:=hP.out (.inl (by omega))
 refine⟨fun k h1 h2=>?_,fun k h1 h2=>?_⟩
 ·rw[em,hP.out (.inl (by omega))];exact h.1 k h1 h2
 ·rw[em];exact hP.all (Q:=fun v=>g ys m<=v) (fun i h3 h4=>h.2 i (by omega) h4) k (by omega) h2
theorem SO.keep{ys zs:List Int}{a e a' e':Nat}(h:SO ys a e)(hP:PI a' e' ys zs)(hd:e<=a'\/e'<=a):SO zs a e:=by
 intro p q h1 h2 h3
 rw[hP.out (by omega),hP.out (by omega)]
 exact h p q h1 h2 h3
theorem c223(n:Nat):∀ {s:Sl}{b:Nat}{w:World}{xs:List Int}{a e:Nat}(lim:Int),e-a=n->Ar s b w.heap xs->e<=xs.length->a<=e->LB xs a e->
  Cw 223 #[slV s,iv a,iv e,iv lim] w fun v w'=>v=.tuple #[]/\∃ys,PI a e xs ys/\SO ys a e/\Ar s b w'.heap ys/\CB b w w':=by
 induction n using Nat.strongRecOn with
 | _ n ih=>
 intro s b w xs a e lim hn h he hae hLB
 have hl:=h.2.2.1
 refine F223_ok s a e lim w _ ⟨fun k x W=>∃(a' e':Nat)(lm:Int)(wb wp:Bool)(ys:List Int),k=e'-a'/\x=((a':Int),(e':Int),lm,wb,wp)/\(a<=a'/\a'<=e'/\e'<=e)/\PI a e xs ys/\LB ys a' e'/\
  (∀zs,PI a' e' ys zs->SO zs a' e'->SO zs a e)/\Ar s b W.heap ys/\CB b w W,⟨_,a,e,lim,true,true,xs,rfl,rfl,by omega,.refl,hLB,fun _ _ h=>h,h,Ch.refl _ _⟩,?_⟩
 rintro _ _ W _ ⟨a',e',lm,wb,wp,ys,rfl,rfl,hae',hP,hB,hG,hA,hC⟩
 have hyl:=hP.len
 have up:∀ {zs},PI a' e' ys zs->PI a e xs zs:=fun k=>hP.trans' k (by omega) (by omega) he
 unfold F223j1
 dsimp only
 rw[wsb (by omega) (by omega)]
 refine IfB.dec (fun h12=>?_) (fun h12=>?_)
 ·refine(c257 hA (by omega) (by omega)).use ?_
  rintro _ W2 ⟨rfl,zs,hP2,hS2,hA2,hC2⟩
  exact⟨(),rfl,rfl,zs,up hP2,hG zs hP2 hS2,hA2,hC.trans hC2⟩
 have hbig:a'+12<e':=by omega
 refine IfB.intro (fun _=>?_) (fun _=>?_)
 ·refine(c258 hA (by omega) (by omega)).use ?_
  rintro _ W2 ⟨rfl,zs,hP2,hS2,hA2,hC2⟩
  exact⟨(),rfl,rfl,zs,up hP2,hG zs hP2 hS2,hA2,hC.trans hC2⟩
 refine⟨fun _ W=>∃zs,PI a' e' ys zs/\Ar s b W.heap zs/\CB b w W,?_,?_⟩
 ·refine IfB.intro (fun _=>?_) (fun _=>⟨rfl,ys,.refl,hA,hC⟩)
  refine(c259 hA (by omega) hbig).use ?_
  rintro _ W2 ⟨rfl,zs,hP2,hA2,hC2⟩
  exact⟨(),rfl,rfl,zs,hP2,hA2,hC.trans hC2⟩
 rintro lm2 W2 _ ⟨zs,hP2,hA2,hC2⟩
 have hzl:=hP2.len
 unfold F223j2
 dsimp only
 refine(c260 hA2 (by omega) hbig).use ?_
 rintro _ W3 ⟨p,t,rfl,hp,hA3,e3⟩
 have hC3:CB b w W3:=hC2.then e3 fun _ _ h=>h.elim
 refine⟨((p:Int),t),rfl,fun x W=>∃(p:Nat)(us:List Int),x.1=(p:Int)/\(a'<=p/\p<e')/\PI a' e' ys us/\Ar s b W.heap us/\CB b w W,?_,?_⟩
 ·refine IfB.intro (fun _=>?_) (fun _=>⟨rfl,p,zs,rfl,hp,hP2,hA3,hC3⟩)
  refine(c261 hA3 (by omega) (by omega)).use ?_
  rintro _ W4 ⟨rfl,us,hP4,hA4,hC4⟩
  refine⟨(),rfl,rfl,e'-1-(p-a'),us,?_,by omega,hP2.trans hP4,hA4,hC3.trans hC4⟩
  show IntKind.i64.wrap (IntKind.i64.wrap ((e':Int)-1)-IntKind.i64.wrap ((p:Int)-(a':Int)))=_
  rw[wm1 (by omega) (by omega),wsb (by omega) (by omega),wsb (by omega) (by omega)]
 rintro⟨_,t2⟩ W5 _ ⟨p,us,rfl,hp,hP5,hA5,hC5⟩
 have hul:=hP5.len
 unfold F223j3
 dsimp only
 refine⟨fun _ W=>∃us,PI a' e' ys us/\Ar s b W.heap us/\CB b w W,?_,?_⟩
 ·refine IfB.intro (fun _=>IfB.intro (fun _=>IfB.intro (fun _=>?_) (fun _=>⟨rfl,us,hP5,hA5,hC5⟩)) (fun _=>⟨rfl,us,hP5,hA5,hC5⟩)) (fun _=>⟨rfl,us,hP5,hA5,hC5⟩)
  refine(c262 hA5 (by omega) (by omega) (hB.pi hP5)).use ?_
  rintro _ W6 ⟨t,rfl,vs,hP6,hS6,hA6,hC6⟩
  exact⟨t,rfl,IfB.intro (fun ht=>⟨rfl,vs,up (hP5.trans hP6),hG vs (hP5.trans hP6) (hS6 ht),hA6,hC5.trans hC6⟩) (fun _=>⟨rfl,vs,hP5.trans hP6,hA6,hC5.trans hC6⟩)⟩
 rintro _ W7 _ ⟨us,hP7,hA7,hC7⟩
 have hul:=hP7.len
 have hB7:=hB.pi hP7
 have hG7:∀zs,PI a' e' us zs->SO zs a' e'->SO zs a e:=fun zs k=>hG zs (hP7.trans k)
 have part:∀ {W8:World},W8.heap=W7.heap->CB b w W8->Cx 265 #[slV s,iv a',iv e',iv p] W8 fun v65 w66=>∃x67:Int×Bool,v65=.tuple #[.int .i64 x67.1,.bool x67.2]/\¬(8:Int)=0/\
   IfB (decide (IntKind.i64.wrap (x67.fst-(a':Int))<IntKind.i64.wrap ((e':Int)-x67.fst))) (F223k2 s ((a':Int),(e':Int),lm,wb,wp) x67 lm2 w66 (e'-a') (fun k x W=>∃(a' e':Nat)(lm:Int)(wb wp:Bool)(ys:List Int),k=e'-a'/\x=((a':Int),(e':Int),lm,wb,wp)/\(a<=a'/\a'<=e'/\e'<=e)/\PI a e xs ys/\LB ys a' e'/\
  (∀zs,PI a' e' ys zs->SO zs a' e'->SO zs a e)/\Ar s b W.heap ys/\CB b w W))
    (F223k1 s x67 ((a':Int),(e':Int),lm,wb,wp) lm2 w66 (e'-a') (fun k x W=>∃(a' e':Nat)(lm:Int)(wb wp:Bool)(ys:List Int),k=e'-a'/\x=((a':Int),(e':Int),lm,wb,wp)/\(a<=a'/\a'<=e'/\e'<=e)/\PI a e xs ys/\LB ys a' e'/\
  (∀zs,PI a' e' ys zs->SO zs a' e'->SO zs a e)/\Ar s b W.heap ys/\CB b w W)):=by
  intro W8 hW8 hC8
  have hA8:Ar s b W8.heap us:=by rw[hW8];exact hA7
  refine(c265 hA8 (by omega) hp).use ?_
  rintro _ W9 ⟨m,t,rfl,hm,vs,hP9,h1,h2,hA9,hC9⟩
  have hvl:=hP9.len
  have hPd:Pd vs a' m e':=⟨fun k h3 h4=>Int.le_of_lt (h1 k h3 h4),h2⟩
  have hB9:=hB7.pi hP9
  have hC9:=hC8.trans hC9
  refine⟨((m:Int),t),rfl,by decide,IfB.intro (fun _=>?_) (fun _=>?_)⟩
  ·unfold F223k2
   refine(ih (m-a') (by omega) lm2 rfl hA9 (by omega) (by omega) fun h0 k h3 h4=>hB9 h0 k h3 (by omega)).use ?_
   rintro _ W10 ⟨rfl,ts,hP10,hS10,hA10,hC10⟩
   have hPd2:=hPd.left hP10
   refine⟨(),rfl,rfl,e'-(m+1),by omega,m+1,e',_,_,_,ts,rfl,by rw[wp1 (by omega)],by omega,hP.trans' (hP7.trans (hP9.trans' hP10 (by omega) (by omega) (by omega))) (by omega) (by omega) he,fun _ k h3 h4=>hPd2.2 k (by omega) h4,fun zs hz hSz=>?_,hA10,hC9.trans hC10⟩
   have hPz:PI a' e' us zs:=(hP9.trans' hP10 (by omega) (by omega) (by omega)).trans' hz (by omega) (by omega) (by omega)
   have hPd3:=hPd2.right hz
   exact hG7 zs hPz ((hS10.keep hz (.inl (by omega))).split hSz hPd3.1 hPd3.2)
  ·unfold F223k1
   dsimp only
   rw[wp1 (by omega)]
   refine(ih (e'-(m+1)) (by omega) lm2 rfl hA9 (by omega) (by omega) fun h0 k h3 h4=>hPd.2 k (by omega) h4).use ?_
   rintro _ W10 ⟨rfl,ts,hP10,hS10,hA10,hC10⟩
   have hPd2:=hPd.right hP10
   have hB10:LB ts a' m:=fun h0 k h3 h4=>by
    rw[hP10.out (.inl (by omega)),hP10.out (.inl (by omega))]
    exact hB9 h0 k h3 (by omega)
   refine⟨(),rfl,rfl,m-a',by omega,a',m,_,_,_,ts,rfl,rfl,by omega,hP.trans' (hP7.trans (hP9.trans' hP10 (by omega) (by omega) (by omega))) (by omega) (by omega) he,hB10,fun zs hz hSz=>?_,hA10,hC9.trans hC10⟩
   have hPz:PI a' e' us zs:=(hP9.trans' hP10 (by omega) (by omega) (by omega)).trans' hz (by omega) (by omega) (by omega)
   have hPd3:=hPd2.left hz
   exact hG7 zs hPz (hSz.split (hS10.keep hz (.inr (by omega))) hPd3.1 hPd3.2)
 unfold F223j4
 dsimp only
 refine IfB.dec (fun h0=>?_) (fun h0=>part rfl hC7.drew)
 have h0:0<a':=by omega
 rw[wm1 (by omega) (by omega)]
 refine ls (w:=W7.drew) hA7 (by omega) (by omega) (by omega) (by omega) (IfB.intro (fun hl1=>?_) (fun _=>part rfl hC7.drew))
 simp only[Int.toNat_natCast,Bool.not_eq_true',decide_eq_false_iff_not] at hl1
 refine(c264 (w:=W7.drew) hA7 (by omega) hp).use ?_
 rintro _ W8 ⟨m,rfl,hm,vs,hP8,hv,h1,h2,hA8,hC8⟩
 have hvl:=hP8.len
 have hB8:=hB7.pi hP8
 have ho:g vs (a'-1)=g us (a'-1):=hP8.out (.inl (by omega))
 have hv1:∀k,a'<=k->k<m->g vs k=g us p:=fun k h3 h4=>by
  have:=h1 k h3 h4
  have:=hB8 h0 k h3 (by omega)
  omega
 refine⟨_,rfl,rfl,e'-m,by omega,m,e',lm2,wb,wp,vs,rfl,rfl,by omega,up (hP7.trans hP8),fun _ k h3 h4=>?_,fun zs hz hSz=>?_,hA8,hC7.drew.trans hC8⟩
 ·rw[hv1 (m-1) (by omega) (by omega)]
  have:=h2 k h3 h4
  omega
 ·have hlow:∀k,a'<=k->k<m->g zs k=g us p:=fun k h3 h4=>by rw[hz.out (.inl h4)];exact hv1 k h3 h4
  have hhigh:∀k,m<=k->k<e'->g us p<g zs k:=hz.all (Q:=fun v=>g us p<v) h2
  refine hG7 zs (hP8.trans' hz (by omega) (by omega) (by omega)) fun i j h3 h4 h5=>?_
  by_cases hj:j<m
  ·rw[hlow i h3 (by omega),hlow j (by omega) hj];exact Int.le_refl _
  ·by_cases hi:i<m
   ·rw[hlow i h3 hi]
    have:=hhigh j (by omega) h5
    omega
   ·exact hSz i j (by omega) h4 h5
theorem SO.sorted{ys:List Int}(h:SO ys 0 ys.length):ys.Pairwise (· <=·):=by
 rw[List.pairwise_iff_getElem]
 intro i j hi hj hij
 have:=h i j (Nat.zero_le _) hij hj
 have e1:=g_eq hi;have e2:=g_eq hj
 rw[List.getElem?_eq_getElem hi] at e1
 rw[List.getElem?_eq_getElem hj] at e2
 rw[Option.some.injEq] at e1 e2
 rw[e1,e2];exact this
theorem c125e(s:Sl)(w:World):Cw 257 #[slV s,iv 0,iv 0] w fun v w'=>v=.tuple #[]/\w=w':=by
 refine F257_ok s (0:Int) (0:Int) w _ ⟨fun k x W'=>x=(1:Int)/\w=W',⟨0,by decide,rfl⟩,?_⟩
 rintro k _ _ _ ⟨rfl,rfl⟩
 exact IfB.no (by decide) ⟨rfl,rfl⟩
theorem c120e(s:Sl)(L:Int)(w:World):Cw 223 #[slV s,iv 0,iv 0,iv L] w fun v w'=>v=.tuple #[]/\w=w':=by
 refine F223_ok s (0:Int) (0:Int) L w _ ⟨fun k x W=>x=((0:Int),(0:Int),L,true,true)/\w=W,⟨0,rfl,rfl⟩,?_⟩
 rintro k _ _ _ ⟨rfl,rfl⟩
 unfold F223j1
 refine IfB.yes (show decide (IntKind.i64.wrap ((0:Int)-(0:Int))<=(12:Int))=true by decide) ((c125e s w).use ?_)
 rintro _ _ ⟨rfl,rfl⟩
 exact⟨(),rfl,rfl,rfl⟩
theorem c179{w:World}{s:Sl}{xs:List Int}(h:OwS w s 1 (xs.map iv))(hl:xs.length<=1000000):
  Cw 179 #[slV s] w fun v w'=>v=.tuple #[]/\∃ys:List Int,ys.Perm xs/\ys.Pairwise (· <=·)/\OwS w' s 1 (ys.map iv)/\Ch (fun i=>i∈blk s) w w':=by
 have hn:=h.len1
 rw[List.length_map] at hn
 refine F179_ok s w _ ?_
 unfold F179
 rw[show (s.2:Int)=((xs.length:Nat):Int) by show (s.n:Int)=_;rw[hn],wu64 (by omega)]
 refine(c156 hl w).use ?_
 rintro _ _ ⟨L,rfl,hL,rfl⟩
 refine⟨_,rfl,?_⟩
 by_cases h0:xs.length=0
 ·have:xs=[]:=List.length_eq_zero_iff.1 h0
  subst this
  refine(c120e s L w).use ?_
  rintro _ _ ⟨rfl,rfl⟩
  exact⟨(),rfl,rfl,[],.refl _,.nil,h,Ch.refl _ _⟩
 ·obtain⟨b,hA,hb⟩:=Ar.of h (by omega) hl
  refine(c223 _ (L:Int) rfl hA (Nat.le_refl _) (Nat.zero_le _) (fun h0=>absurd h0 (by decide))).use ?_
  rintro _ W2 ⟨rfl,ys,hP,hS,hA2,hC2⟩
  have hyl:=hP.len
  exact⟨(),rfl,rfl,ys,hP.perm,SO.sorted (by rw[hyl];exact hS),hA2.own,hC2.mono fun i _ hi=>by rw[hb];simpa using hi⟩
set_option maxRecDepth 100000
noncomputable def R222_0:Code:=codeAt [1,0,1,0] (bodyOf Tryz.f222)
def R222_0a:An:=.nil
theorem R222_0ok1:okC tb Tryz.f222.ntmps (rA R222_0) .nil=true:=by kernel_rfl
theorem R222_0ok2:okC tb Tryz.f222.ntmps (rB R222_0) R222_0a=true:=by kernel_rfl
theorem R222_0okp:(rP R222_0).toList.all (fun p=>Nat.blt p Tryz.f222.ntmps)=true:=by kernel_rfl
theorem F222_ok(t0:Sl)(t1:Nat×Array Value)(w:World)(R:RV)(h:AllocP w (Obj.cells #[Qy t0] 30) fun b1 w2=>∀(y3:Nat->Value),RangeP Tryz.prog tb (nat_lit 13) none R222_0a (rG R222_0) (rP R222_0) (rA R222_0) (rB R222_0) (frC y3 [(2,Value.pointer (some ⟨b1,0,none⟩)),(4,Value.slice none 0 0),(6,Value.func (Fn.func t1.1) #[] t1.2)]) [] w2 (fun(l4:List Nat) (w5:World)=>Qs w5 b1 0 fun s6=>marksP w5 l4 fun w7=>R (Qy s6) w7) (fun(l8:List Nat) (w9:World)=>marksP w9 l8 fun w10=>R (Value.slice none 0 0) w10) fun(b11:Nat) (l12:List Nat) (w13:World)=>match b11.beq 0 with|true=>Qs w13 b1 0 fun s15=>marksP w13 l12 fun w16=>R (Qy s15) w16|false=>False):Cw 222 #[Qy t0,Value.func (Fn.func t1.1) #[] t1.2] w R:=
 ckF Tryz.func222 (nd (.node (nd (.rng [(2,.one (.box)),(4,.one (.sl)),(6,.one (.clo))] .nil)) .nil)) h (by kernel_rfl) (by kernel_rfl)
theorem F222b0_ok(t2:Nat)(t4:Sl)(t6:Nat×Array Value)(x7:Int)(l D n₀:Nat)(Jn:World->Prop)(Jx:Code->World->Prop)(W:World){g:Nat->Value}(h:([]:List Nat)=[]/\(W.1[l]? =W.1[l]? /\W.1[D]? =W.1[D]?)/\∀(w9:World),Stb n₀ W w9->Its W w9->(∃y12:Loop,w9.1[l]? =some (Obj.loop y12))->∃s16:Sl,w9.cell? ⟨t2,0,none⟩=some (Qy s16)/\1*1<=16777216/\AllocP w9 (Obj.cells #[Qz x7] 3) fun b17 w18=>∃(l19:List Value),ReadC w18 (some ⟨b17,0,none⟩) (1*1) l19/\AppendP tt3 3 w18 s16.1 s16.2 s16.3 1 l19 fun s20 w21=>#[Qy s20].size=1/\StoreP w21 t2 0 [Qy s20] fun w22=>(w22.1[l]? =w9.1[l]? /\w22.1[D]? =w9.1[D]?)/\Jn w22):
  BodyP Tryz.prog tb Tryz.f222.ntmps l D n₀ R222_0a (rP R222_0) (rA R222_0) (rB R222_0) (frC g [(2,Value.pointer (some ⟨t2,0,none⟩)),(4,Value.slice t4.1 t4.2 t4.3),(6,Value.func (Fn.func t6.1) #[] t6.2)]) Jn Jx [Value.int IntKind.i64 x7] W:=
 Eq.mp (by kernel_rfl) h
theorem F178_ok(t0:Nat×Array Value)(w:World)(R:RV)(h:Cx 222 #[Value.slice none 0 0,Value.func (Fn.func t0.1) #[] t0.2] w fun v1 w2=>∃s3:Sl,v1=Qy s3/\R (Qy s3) w2):Cw 178 #[Value.func (Fn.func t0.1) #[] t0.2] w R:=
 ckF Tryz.func178 .nil h (by kernel_rfl) (by kernel_rfl)
theorem F123_ok(t0:Nat×Array Value)(w:World)(R:RV)(h:Cx 178 #[Value.func (Fn.func t0.1) #[] t0.2] w fun v1 w2=>∃s3:Sl,v1=Qy s3/\Cx 179 #[Qy s3] w2 fun v4 w5=>∃y6:Unit,v4=Value.tuple #[]/\R (Qy s3) w5):Cw 123 #[Value.func (Fn.func t0.1) #[] t0.2] w R:=
 ckF Tryz.func123 .nil h (by kernel_rfl) (by kernel_rfl)
structure IntIt(gf:Nat)(lb:Array Value)(w:World)(Fin:List Int->Prop):Prop where
 ex:∃(Nxt:List Int->Int->Prop)(Inv:World->Prop)(Good:List Int->Prop),Iter Tryz.prog gf lb ivA false Nxt Fin Inv/\Inv w/\(∀n W W',Inv W->Stb n W W'->Inv W')/\(∀F W W',Inv W->Ch F W W'->(∀i,F i->w.heap.size<=i)->Inv W')/\
  Good []/\(∀pre x,Good pre->Nxt pre x->Good (pre++[x]))/\∀l,Good l->l.length<=1000000
theorem oneIv(x:Int):One [iv x]:=by intro v hv;rw[List.mem_singleton.1 hv];rfl
theorem ivA_sz(x:Int):(ivA x).size=1:=rfl
theorem appendSeq_of{w:World}{gf:Nat}{lb:Array Value}{Fin:List Int->Prop}(h:IntIt gf lb w Fin):
  Cw 222 #[.slice none 0 0,.func (.func gf) #[] lb] w fun v w'=>∃t,∃xs:List Int,v=slV t/\Fin xs/\xs.length<=1000000/\OwS w' t 1 (xs.map iv)/\Ext w w'/\∀j∈blk t,w.heap.size<=j:=by
 obtain⟨Nxt,Inv,Good,it,hI0,hIs,hIc,hG0,hGs,hGl⟩:=h.ex
 refine F222_ok ⟨none,0,0⟩ (gf,lb) w _ ?_
 intro b2 w2 h2 g
 have e2:Ext w w2:=h2.ch _
 have hs2:=h2.size
 have hh2:=h2.here
 let G:List Int->World->Prop:=fun pre W=>Good pre/\Inv W/\∃t:Sl,(∃T,W.heap[b2]? =some (.cells #[slV t] T (0,0)))/\OwS W t 1 (pre.map iv)/\(∀j∈blk t,w2.heap.size+2<=j)/\Ch (fun i=>w.heap.size<=i) w W
 refine range_none tbOk mixed (gf:=gf) (lb:=lb) rfl it R222_0ok1 R222_0ok2 R222_0okp ivA_sz G (fun _ _ _=>False) ?_ (fun _ _ _ _ h=>h.elim) ?_ (fun h=>by cases h) ?_ ?_ ?_ (fun _ _ _ h=>h.elim)
 ·rintro pre W W' ⟨h1,h3,t,⟨T,h4⟩,h5,h6,h7⟩ hS
  exact⟨h1,hIs _ _ _ h3 hS,t,⟨T,hS.keep _ _ h4 rfl⟩,h5.stb hS,h6,h7.then (.ofStb hS) fun i _ hi=>by omega⟩
 ·rintro pre W ⟨_,h3,_⟩;exact h3
 ·exact⟨hG0,hIc _ _ _ hI0 e2 fun _ h=>h.elim,⟨none,0,0⟩,⟨_,h2.new⟩,.nil _ _,by simp[blk],e2.mono fun _ _ h=>h.elim⟩
 ·rintro pre x W ⟨hgd,hJ,t,⟨T,hb⟩,ho,hbl,hC⟩ hxn hW
  refine F222b0_ok b2 ⟨none,0,0⟩ (gf,lb) x _ _ _ _ _ W ?_
  refine⟨rfl,⟨rfl,rfl⟩,fun w12 hS hI0 hL=>?_⟩
  have H:=hS.keep _ _ hb rfl
  have ho12:=ho.stb hS
  have hJ12:=hIs _ _ _ hJ hS
  have hC12:Ch (fun i=>w.heap.size<=i) w w12:=hC.then (.ofStb hS) fun i _ hi=>by omega
  have hs12:=hS.size
  refine⟨t,by rw[cell_of H];rfl,by decide,fun b20 w21 h21=>?_⟩
  refine⟨[iv x],⟨rfl,cellsAt_of h21.new fun i v hv=>by simpa using hv⟩,?_⟩
  have e21:Ext w12 w21:=h21.ch _
  have htn:t.n=pre.length:=by have:=ho.len1;rw[List.length_map] at this;exact this
  have hpl:=hGl _ hgd
  have hgd2:=hGs _ _ hgd hxn
  have hpl2:=hGl _ hgd2
  rw[List.length_append,List.length_singleton] at hpl2
  refine(ho12.ext e21).append (cnt:=1) rfl rfl rfl (oneIv x) ⟨by omega,by dsimp only;omega⟩ ?_
  intro s' w24 ho' hn' hc' hb' _
  have hne:∀i,i<w2.heap.size->¬i∈blk t:=fun i hi h=>by have:=hbl i h;omega
  have H24:=hc'.at (e21.at H) (hne _ (by omega))
  refine⟨rfl,store_one H24 (by simp) rfl fun w25 h25=>?_⟩
  have hc25:Ch (fun i=>i=b2\/i∈blk t) w12 w25:=(((e21.mono fun _ _ h=>h.elim).then hc' fun i _ h=>.inr h).then h25.ch fun i _ h=>.inl h)
  have hb2':∀j∈blk s',w2.heap.size+2<=j:=fun j hj=>by
   rcases hb' j hj with h|h
   ·exact hbl j h
   ·have:=e21.size;omega
  have far:∀i,i<w2.heap.size+2->i≠b2->¬(i=b2\/i∈blk t):=fun i hi hne' h=>h.elim hne' fun h=>by have:=hbl i h;omega
  refine⟨⟨hc25.old _ (by omega) (far _ (by omega) (by omega)),hc25.old _ (by omega) (far _ (by omega) (by omega))⟩,⟨hgd2,hIc _ _ _ hJ12 hc25 (fun i hi=>hi.elim (fun e=>by omega) fun h=>by have:=hbl i h;omega),s',⟨_,h25.new⟩,?_,hb2',?_⟩,hI0.trans (Its.ch hc25 fun i hi=>hi.elim (fun e=>e ▸ notIt H) (fun h=>ho12.blkIt h))⟩
  ·have:=ho'.ch h25.ch fun j hj e=>by have:=hb2' j hj;omega
   rw[List.map_append];exact this
  ·exact hC12.then hc25 fun i hi h=>by
    rcases h with h|h
    ·omega
    ·have:=hbl _ h;omega
 ·rintro xs W hxs ⟨hgd,hJ,t,⟨T,hb⟩,ho,hbl,hC⟩ hD
  refine⟨t,by rw[cell_of hb];rfl,marks_one hD fun w' hu=>⟨t,xs,rfl,hxs,hGl _ hgd,?_,?_,fun j hj=>by have:=hbl j hj;omega⟩⟩
  ·refine ho.ch hu.ch fun j hj e=>?_
   have:=hbl j hj;omega
  ·exact⟨hC.rest.trans hu.rest,by rw[hu.size];exact hC.size,fun i hi _=>by rw[hu.old i (by omega)];exact hC.old i hi (by omega)⟩
theorem collect_of{w:World}{gf:Nat}{lb:Array Value}{Fin:List Int->Prop}(h:IntIt gf lb w Fin):
  Cw 178 #[.func (.func gf) #[] lb] w fun v w'=>∃t,∃xs:List Int,v=slV t/\Fin xs/\xs.length<=1000000/\OwS w' t 1 (xs.map iv)/\Ext w w'/\∀j∈blk t,w.heap.size<=j:=by
 refine F178_ok (gf,lb) w _ ((appendSeq_of h).use ?_)
 rintro _ w2 ⟨t,xs,rfl,h⟩
 exact⟨t,rfl,t,xs,rfl,h⟩
theorem sorted_of{w:World}{gf:Nat}{lb:Array Value}{Fin:List Int->Prop}(h:IntIt gf lb w Fin):
  Cw 123 #[.func (.func gf) #[] lb] w fun v w'=>∃t,∃xs ys:List Int,v=slV t/\Fin ys/\xs.Perm ys/\ys.length<=1000000/\xs.Pairwise (· <=·)/\OwS w' t 1 (xs.map iv)/\Ext w w'/\∀j∈blk t,w.heap.size<=j:=by
 refine F123_ok (gf,lb) w _ ((collect_of h).use ?_)
 rintro _ w2 ⟨t,ys,rfl,hf,hl,ho,e2,hb⟩
 refine⟨t,rfl,(c179 ho hl).use ?_⟩
 rintro _ w5 ⟨rfl,xs,hp,hs,ho2,hC⟩
 exact⟨(),rfl,t,xs,ys,rfl,hf,hp,hl,hs,ho2,e2.then hC fun i hi h=>by have:=hb i h;omega,hb⟩
theorem keysI_stb{n b1:Nat}{p:MO}{W W':World}(h:KeysI b1 p W)(hS:Stb n W W'):KeysI b1 p W':=by
 obtain⟨⟨T,hT⟩,h⟩:=h
 refine⟨⟨T,hS.keep _ _ hT rfl⟩,?_⟩
 match p,h with
 | none,_=>trivial
 | some (r,es,ck),h=>exact hS.keep _ _ h rfl
theorem keysI_ch{F:Nat->Prop}{b1:Nat}{p:MO}{W W':World}(h:KeysI b1 p W)(hc:Ch F W W')(h1:¬F b1)(h2:∀r es ck,p=some (r,es,ck)->¬F r):KeysI b1 p W':=by
 obtain⟨⟨T,hT⟩,h⟩:=h
 refine⟨⟨T,hc.at hT h1⟩,?_⟩
 match p,h,h2 with
 | none,_,_=>trivial
 | some (r,es,ck),h,h2=>exact hc.at h (h2 _ _ _ rfl)
theorem keysIt{g b1:Nat}(hen:Entr Tryz.prog g)(hF:∀l W R,KeysF Tryz.prog l b1 W R->Cw g #[.func (.yield l) #[] #[],.pointer (some ⟨b1,0,none⟩)] W R){w:World}{p:MO}{ks:List Int}(hI:KeysI b1 p w)(hks:KeysE p ks)(hl:ks.length<=1000000):
  IntIt g #[.pointer (some ⟨b1,0,none⟩)] w fun xs=>xs.Perm ks:=by
 have hb1:b1<w.heap.size:=by obtain⟨⟨T,hT⟩,_⟩:=hI;exact heap_lt hT
 have hr1:∀r es ck,p=some (r,es,ck)->r<w.heap.size:=fun r es ck e=>by subst e;exact heap_lt hI.2
 refine⟨_,_,fun pre=>pre.Nodup/\∀x∈pre,x∈ks,keys_iter hen hF hks,hI,fun n W W'=>keysI_stb,fun F W W' h hc hF=>keysI_ch h hc (fun h=>by have:=hF _ h;omega) (fun r es ck e h=>by have:=hF _ h;have:=hr1 _ _ _ e;omega),⟨.nil,by simp⟩,?_,?_⟩
 ·rintro pre x ⟨hnd,hsub⟩ ⟨hxk,hxp⟩
  refine⟨?_,fun a ha=>?_⟩
  ·rw[List.nodup_append];exact⟨hnd,by simp,fun a ha b hb=>by rw[List.mem_singleton.1 hb];exact fun e=>hxp (e ▸ ha)⟩
  ·rcases List.mem_append.1 ha with h|h
   ·exact hsub a h
   ·rw[List.mem_singleton.1 h];exact hxk
 ·rintro l ⟨hnd,hsub⟩
  exact Nat.le_trans (nodup_len hnd hsub) hl
theorem rdI{w:World}{t:Sl}{l:List Int}(h:Rd w t 1 (l.map iv)):t.n=l.length:=by have:=h.len1;rw[List.length_map] at this;exact this
theorem rdI_get{w:World}{t:Sl}{l:List Int}(h:Rd w t 1 (l.map iv)){i:Nat}{x:Int}(hx:l[i]? =some x):∃a o,t.p=some ⟨a,o,none⟩/\w.cell? ⟨a,o+i,none⟩=some (iv x):=
 h.elem1 (i:=i) (v:=iv x) (by rw[List.getElem?_map,hx];rfl)
theorem nodup_le{α:Type}[DecidableEq α]:∀ {a b:List α},a.Nodup->(∀x∈a,x∈b)->a.length<=b.length
 | [],_,_,_=>Nat.zero_le _
 | x::a,b,hn,h=>by
  obtain⟨h1,h2⟩:=List.nodup_cons.1 hn
  have hx:=h x (by simp)
  have:=nodup_le (a:=a) (b:=b.erase x) h2 fun y hy=>by
   have hne:y≠x:=fun e=>h1 (by rw[<-e];exact hy)
   exact(List.mem_erase_of_ne hne).2 (h y (by simp[hy]))
  rw[List.length_erase_of_mem hx] at this
  have:=List.length_pos_of_mem hx
  simp only[List.length_cons];omega
theorem pickL{α β:Type}{Q:α->β->Prop}:∀ {l:List α},(∀x∈l,∃n,Q x n)->∃ns:List β,ns.length=l.length/\∀(i:Nat) x n,l[i]? =some x->ns[i]? =some n->Q x n
 | [],_=>⟨[],rfl,by simp⟩
 | x::l,h=>by
  obtain⟨n,hn⟩:=h x (by simp)
  obtain⟨ns,h1,h2⟩:=pickL (l:=l) fun y hy=>h y (List.mem_cons_of_mem _ hy)
  refine⟨n::ns,by simp[h1],fun i y m hy hm=>?_⟩
  cases i with
  | zero=>cases hy;cases hm;exact hn
  | succ i=>exact h2 i y m hy hm
theorem rep_list{A:Nat->Prop}{w:World}{e:Ty}{δ:Type}{f:δ->List Value}{Q:e.den->δ->Prop}{l:List e.den}{cs:List Value}(h:rep A w (.sl e) l cs)(hp:∀x∈l,∀c,rep A w e x c->∃n,c=f n/\Q x n):
  ∃(s:Sl)(ns:List δ),cs=[slV s]/\Rd w s e.sz (ns.flatMap f)/\ns.length=l.length/\s.n=l.length/\s.n<=s.c/\s.n<=maxLen/\∀(i:Nat) x n,l[i]? =some x->ns[i]? =some n->Q x n:=by
 obtain⟨s,rfl,h1,h2,h3,h4,css,h5,h6,h7⟩:=h
 have hz:∀i(hi:i<l.length),∃n,css[i]? =some (f n)/\Q l[i] n:=fun i hi=>by
  have hc:css[i]? =some (css[i]'(by omega)):=List.getElem?_eq_getElem _
  obtain⟨n,hn,hq⟩:=hp l[i] (List.getElem_mem _) _ (h6 i _ _ hc (List.getElem?_eq_getElem hi))
  exact⟨n,by rw[hc,hn],hq⟩
 obtain⟨ns,hl,hq⟩:=pickL (l:=List.range l.length) (Q:=fun i n=>css[i]? =some (f n)/\∀x,l[i]? =some x->Q x n) fun i hi=>by
  have hi:=List.mem_range.1 hi
  obtain⟨n,a,b⟩:=hz i hi
  exact⟨n,a,fun x hx=>by rw[List.getElem?_eq_getElem hi] at hx;cases hx;exact b⟩
 rw[List.length_range] at hl
 refine⟨s,ns,rfl,?_,hl,h1,h2,h3,fun i x n hx hn=>?_⟩
 ·have:css=ns.map f:=by
   apply List.ext_getElem?
   intro i
   by_cases hi:i<l.length
   ·rw[List.getElem?_map,List.getElem?_eq_getElem (show i<ns.length by omega)]
    exact(hq i i _ (List.getElem?_range hi) (List.getElem?_eq_getElem (by omega))).1
   ·rw[List.getElem?_eq_none (by omega),List.getElem?_eq_none (by simp;omega)]
  rw[List.flatMap_def,<-this];exact h7
 ·have hi:=(List.getElem?_eq_some_iff.1 hx).1
  exact(hq i i n (List.getElem?_range hi) hn).2 x hx
theorem ext_eq{α:Type}{l m:List α}(hl:m.length=l.length)(h:∀(i:Nat) x n,l[i]? =some x->m[i]? =some n->n=x):m=l:=by
 apply List.ext_getElem?
 intro i
 by_cases hi:i<l.length
 ·have:=h i _ _ (List.getElem?_eq_getElem hi) (List.getElem?_eq_getElem (show i<m.length by omega))
  rw[List.getElem?_eq_getElem hi,List.getElem?_eq_getElem (show i<m.length by omega),this]
 ·rw[List.getElem?_eq_none (by omega),List.getElem?_eq_none (by omega)]
theorem rep_plain{A:Nat->Prop}{w:World}{e:Ty}{f:e.den->List Value}{l:List e.den}{cs:List Value}(h:rep A w (.sl e) l cs)(hp:∀x∈l,∀c,rep A w e x c->c=f x):
  ∃s:Sl,cs=[slV s]/\Rd w s e.sz (l.flatMap f)/\s.n=l.length/\s.n<=s.c/\s.n<=maxLen:=by
 obtain⟨s,ns,h1,h2,h3,h4,h5,h6,h7⟩:=rep_list (f:=f) (Q:=fun x n=>n=x) h fun x hx c hc=>⟨x,hp x hx c hc,rfl⟩
 have:=ext_eq h3 h7
 subst this
 exact⟨s,h1,h2,h4,h5,h6⟩
abbrev KeyD:=Int×Int
abbrev InsD:=Int×Int×Int×Int×KeyD×KeyD×Int
abbrev SpTD:=KeyD×KeyD×Bool
abbrev StpD:=List InsD×List SpTD
abbrev ClsD:=ByteArray×Int×List StpD×List StpD×Bool
abbrev tyI:Ty:=.int .i64
abbrev tyKey:Ty:=.pair tyI tyI
abbrev tyIns:Ty:=.pair tyI (.pair tyI (.pair tyI (.pair tyI (.pair tyKey (.pair tyKey tyI)))))
abbrev tySpT:Ty:=.pair tyKey (.pair tyKey .bool)
abbrev tyStp:Ty:=.pair (.sl tyIns) (.sl tySpT)
abbrev tyCls:Ty:=.pair .str (.pair tyI (.pair (.sl tyStp) (.pair (.sl tyStp) .bool)))
abbrev tyBr:Ty:=.arr 4 (.arr 4 tyI)
abbrev tyCat:Ty:=.pair (.sl tyCls) tyBr
abbrev CatD:=List ClsD×List Int
def KeyOk(k:KeyD)(n:Int):Prop:= -1<=k.1/\k.1<n/\0<=k.2/\k.2<=900
structure InsOk(x:InsD)(n:Int):Prop where
 o1:1<=x.1
 o8:x.1<=8
 a0:0<=x.2.1
 a3:x.2.1<=3
 da:x.1=3->x.2.1=0
 xx:x.1≠5->x.1≠8->x.2.2.2.2.2.2=0
 bc:x.1≠6->x.1≠7->x.2.2.1=0/\x.2.2.2.1=0
 kk:4<x.1->x.2.2.2.2.1.1=0/\x.2.2.2.2.1.2=0
 ll:x.1≠4->x.2.2.2.2.2.1.1=0/\x.2.2.2.2.2.1.2=0
 b3:x.1=6\/x.1=7->(0<=x.2.2.1/\x.2.2.1<=3)/\0<=x.2.2.2.1/\x.2.2.2.1<=3
 ko:x.1<=4->KeyOk x.2.2.2.2.1 n
 lo:x.1=4->KeyOk x.2.2.2.2.2.1 n
structure CodeOk(l:List InsD)(n:Int):Prop where
 n0:0<=n
 n3:n<=3
 l1:1<=l.length
 l8:l.length<=8
 all:∀x∈l,InsOk x n
structure FootOk(l:List SpTD)(n:Int):Prop where
 n0:0<=n
 n3:n<=3
 l4:l.length<=4
 all:∀s∈l,KeyOk s.1 n/\KeyOk s.2.1 n
def CompOk(s:StpD)(n:Int):Prop:=(s.1=[]\/CodeOk s.1 n/\∀x∈s.1,x.1<6)/\FootOk s.2 n
structure ClsOk(c:ClsD):Prop where
 s1:1<=c.1.size
 s16:c.1.size<=16
 a0:0<=c.2.1
 a3:c.2.1<=3
 l1:1<=c.2.2.1.length
 l4:c.2.2.1.length<=4
 cl:c.2.2.2.1.length=c.2.2.1.length
 st:∀s∈c.2.2.1,CodeOk s.1 c.2.1/\FootOk s.2 c.2.1
 co:∀s∈c.2.2.2.1,CompOk s c.2.1
def brk(x:CatD)(c d:Nat):Int:=x.2.getD (c*4+d) 0
def nSt(x:CatD)(c:Nat):Nat:=match x.1[c]? with|some y=>y.2.2.1.length|none=>0
def topB(x:CatD)(c d:Nat):Int:=if c<x.1.length/\d<x.1.length then 2^(nSt x c-1) else 1
structure CatOk(x:CatD):Prop where
 n1:1<=x.1.length
 n4:x.1.length<=4
 cls:∀c∈x.1,ClsOk c
 names:∀(i k:Nat)(a b:ClsD),k<i->x.1[i]? =some a->x.1[k]? =some b->a.1.toList≠b.1.toList
 br:∀c d,c<4->d<4->0<=brk x c d/\brk x c d<topB x c d
def brkB(x:CatD)(c d i:Nat):Bool:=decide (c<x.1.length)&&decide (d<x.1.length)&&decide (i+1<nSt x c)&&(brk x c d).toNat.testBit i
def unitN(x:CatD)(c d:Nat):Nat->Nat
 | 0=>0
 | i+1=>unitN x c d i+if brkB x c d i then 1 else 0
theorem unitN_mono(x:CatD)(c d:Nat){i k:Nat}(h:i<=k):unitN x c d i<=unitN x c d k:=by
 induction k with
 | zero=>rw[Nat.le_zero.1 h];exact Nat.le_refl _
 | succ k ih=>
  rcases Nat.lt_or_ge i (k+1) with h'|h'
  ·have:=ih (by omega);rw[unitN];omega
  ·rw[show i=k+1 by omega];exact Nat.le_refl _
theorem unitN_same{x:CatD}{c d i k:Nat}(h:i<=k):unitN x c d i=unitN x c d k↔∀m,i<=m->m<k->brkB x c d m=false:=by
 induction k with
 | zero=>rw[Nat.le_zero.1 h];exact⟨fun _ m _ hm=>by omega,fun _=>rfl⟩
 | succ k ih=>
  rcases Nat.lt_or_ge i (k+1) with h'|h'
  ·have ih:=ih (by omega)
   have hm:=unitN_mono x c d (show i<=k by omega)
   rw[unitN]
   constructor
   ·intro e m h1 h2
    have e0:brkB x c d k=false:=by
     cases hb:brkB x c d k
     ·rfl
     ·rw[hb] at e;simp at e;omega
    rcases Nat.lt_or_ge m k with h3|h3
    ·exact ih.1 (by rw[e0] at e;simpa using e) m h1 h3
    ·rw[show m=k by omega];exact e0
   ·intro hh
    rw[hh k (by omega) (by omega),ih.2 fun m h1 h2=>hh m h1 (by omega)]
    simp
  ·rw[show i=k+1 by omega];exact⟨fun _ m h1 h2=>by omega,fun _=>rfl⟩
structure BndP(x:CatD)(c d i lo hi:Nat):Prop where
 l:lo<=i
 h:i<=hi
 n:hi<nSt x c
 no:∀m,lo<=m->m<hi->brkB x c d m=false
 bl:lo=0\/brkB x c d (lo-1)=true
 bh:hi+1=nSt x c\/brkB x c d hi=true
theorem BndP.iff{x:CatD}{c d i lo hi:Nat}(h:BndP x c d i lo hi){k:Nat}(hk:k<nSt x c):unitN x c d k=unitN x c d i↔lo<=k/\k<=hi:=by
 have h1:=h.l;have h2:=h.h;have h3:=h.n
 rcases Nat.lt_or_ge k i with h4|h4
 ·rw[unitN_same (by omega)]
  constructor
  ·intro hh
   refine⟨Nat.le_of_not_lt fun h5=>?_,by omega⟩
   rcases h.bl with e|e
   ·omega
   ·rw[hh (lo-1) (by omega) (by omega)] at e;cases e
  ·rintro⟨h5,_⟩ m h6 h7
   exact h.no m (by omega) (by omega)
 ·rw[eq_comm,unitN_same h4]
  constructor
  ·intro hh
   refine⟨by omega,Nat.le_of_not_lt fun h5=>?_⟩
   rcases h.bh with e|e
   ·omega
   ·rw[hh hi (by omega) (by omega)] at e;cases e
  ·rintro⟨_,h5⟩ m h6 h7
   exact h.no m (by omega) (by omega)
abbrev insC(x:InsD):List Value:=[.int .i64 x.1,.int .i64 x.2.1,.int .i64 x.2.2.1,.int .i64 x.2.2.2.1,.int .i64 x.2.2.2.2.1.1,.int .i64 x.2.2.2.2.1.2,.int .i64 x.2.2.2.2.2.1.1,.int .i64 x.2.2.2.2.2.1.2,.int .i64 x.2.2.2.2.2.2]
abbrev keyC(x:KeyD):List Value:=[.int .i64 x.1,.int .i64 x.2]
abbrev spTC(x:SpTD):List Value:=[.int .i64 x.1.1,.int .i64 x.1.2,.int .i64 x.2.1.1,.int .i64 x.2.1.2,.bool x.2.2]
theorem insC_len(x:InsD):(insC x).length=9:=rfl
theorem spTC_len(x:SpTD):(spTC x).length=5:=rfl
section
variable {A:Nat->Prop} {w:World}
theorem rep_key{x:KeyD}{cs:List Value}(h:rep A w tyKey x cs):cs=keyC x:=by
 obtain⟨c,d,rfl,⟨rfl,_⟩,rfl,_⟩:=h;rfl
theorem rep_ins{x:InsD}{cs:List Value}(h:rep A w tyIns x cs):cs=insC x:=by
 obtain⟨c1,d1,rfl,⟨rfl,_⟩,c2,d2,rfl,⟨rfl,_⟩,c3,d3,rfl,⟨rfl,_⟩,c4,d4,rfl,⟨rfl,_⟩,c5,d5,rfl,h5,c6,d6,rfl,h6,rfl,_⟩:=h
 have h5:=rep_key (x:=x.2.2.2.2.1) h5
 have h6:=rep_key (x:=x.2.2.2.2.2.1) h6
 subst h5;subst h6;rfl
theorem rep_spT{x:SpTD}{cs:List Value}(h:rep A w tySpT x cs):cs=spTC x:=by
 obtain⟨c1,d1,rfl,h1,c2,d2,rfl,h2,h3⟩:=h
 have h1:=rep_key (x:=x.1) h1
 have h2:=rep_key (x:=x.2.1) h2
 have h3:d2=[.bool x.2.2]:=h3
 subst h1;subst h2;subst h3;rfl
structure StpR(w:World)(s:Sl×Sl)(x:StpD):Prop where
 code:Rd w s.1 9 (x.1.flatMap insC)
 foot:Rd w s.2 5 (x.2.flatMap spTC)
 cn:s.1.n=x.1.length
 fn:s.2.n=x.2.length
 cc:s.1.n<=s.1.c
 fc:s.2.n<=s.2.c
theorem StpR.ext{w':World}{s:Sl×Sl}{x:StpD}(h:StpR w s x)(e:Ext w w'):StpR w' s x:=⟨h.code.ext e,h.foot.ext e,h.cn,h.fn,h.cc,h.fc⟩
theorem rep_stp{x:StpD}{cs:List Value}(h:rep A w tyStp x cs):∃s:Sl×Sl,cs=[slV s.1,slV s.2]/\StpR w s x:=by
 obtain⟨c,d,rfl,h1,h2⟩:=h
 obtain⟨s,rfl,a1,a2,a3,_⟩:=rep_plain (f:=insC) h1 fun y _ c hc=>rep_ins hc
 obtain⟨t,rfl,b1,b2,b3,_⟩:=rep_plain (f:=spTC) h2 fun y _ c hc=>rep_spT hc
 exact⟨(s,t),rfl,a1,b1,a2,b2,a3,b3⟩
end
abbrev SlR(w:World)(e:Ty)(s:Sl)(l:List e.den):Prop:=rep (fun _=>True) w (.sl e) l [slV s]
theorem SlR.ext{w w':World}{e:Ty}{s:Sl}{l:List e.den}(h:SlR w e s l)(x:Ext w w'):SlR w' e s l:=rep_ext x h
theorem SlR.n{w:World}{e:Ty}{s:Sl}{l:List e.den}(h:SlR w e s l):s.n=l.length:=by obtain⟨t,ht,h1,_⟩:=h;rw[slEq ht];exact h1
theorem SlR.cap{w:World}{e:Ty}{s:Sl}{l:List e.den}(h:SlR w e s l):s.n<=s.c/\s.n<=maxLen:=by obtain⟨t,ht,h1,h2,h3,_⟩:=h;rw[slEq ht];exact⟨h2,h3⟩
theorem SlR.rd{w:World}{e:Ty}{s:Sl}{l:List e.den}(h:SlR w e s l):∃css:List (List Value),css.length=l.length/\(∀(i:Nat) c x,css[i]? =some c->l[i]? =some x->rep (fun _=>True) w e x c)/\Rd w s e.sz css.flatten:=by
 obtain⟨t,ht,_,_,_,_,h⟩:=h;rw[slEq ht];exact h
theorem SlR.get{w:World}{e:Ty}{s:Sl}{l:List e.den}(h:SlR w e s l)(hz:0<e.sz){i:Nat}{x:e.den}(hx:l[i]? =some x):∃b o c,s.p=some ⟨b,o,none⟩/\CellsAt w b (o+i*e.sz) c/\rep (fun _=>True) w e x c:=by
 obtain⟨t,b,o,c,ht,_,h1,_,h2,h3⟩:=rep_get h hz hx
 have:=slEq ht;subst this
 exact⟨b,o,c,h1,h2,h3⟩
abbrev StsR(w:World)(s:Sl)(l:List StpD):Prop:=SlR w tyStp s l
abbrev ClsR(w:World)(s:Sl)(l:List ClsD):Prop:=SlR w tyCls s l
theorem StsR.at{w:World}{s:Sl}{l:List StpD}(h:StsR w s l){i:Nat}{x:StpD}(hx:l[i]? =some x):∃b o,∃t:Sl×Sl,s.p=some ⟨b,o,none⟩/\CellsAt w b (o+i*2) [slV t.1,slV t.2]/\StpR w t x:=by
 obtain⟨b,o,c,h1,h2,h3⟩:=SlR.get h (by decide) hx
 obtain⟨t,rfl,h4⟩:=rep_stp h3
 exact⟨b,o,t,h1,h2,h4⟩
abbrev ClsV:=ByteArray×Int×Sl×Sl×Bool
structure ClsM(w:World)(v:ClsV)(x:ClsD):Prop where
 nm:v.1=x.1
 ar:v.2.1=x.2.1
 st:StsR w v.2.2.1 x.2.2.1
 co:StsR w v.2.2.2.1 x.2.2.2.1
 re:v.2.2.2.2=x.2.2.2.2
 sz:x.1.size<=maxLen
theorem ClsM.ext{w w':World}{v:ClsV}{x:ClsD}(h:ClsM w v x)(e:Ext w w'):ClsM w' v x:=⟨h.nm,h.ar,h.st.ext e,h.co.ext e,h.re,h.sz⟩
abbrev clsC(v:ClsV):List Value:=[.string v.1,.int .i64 v.2.1,slV v.2.2.1,slV v.2.2.2.1,.bool v.2.2.2.2]
theorem rep_cls{A:Nat->Prop}{w:World}{x:ClsD}{cs:List Value}(h:rep A w tyCls x cs):∃v:ClsV,cs=clsC v/\ClsM w v x:=by
 obtain⟨c1,d1,rfl,⟨rfl,hz⟩,c2,d2,rfl,⟨rfl,_⟩,c3,d3,rfl,h3,c4,d4,rfl,h4,h5⟩:=h
 have h5:d4=[.bool x.2.2.2.2]:=h5
 subst h5
 have h3:=rep_mono (B:=fun _=>True) (fun _ _=>trivial) h3
 have h4:=rep_mono (B:=fun _=>True) (fun _ _=>trivial) h4
 obtain⟨s,e3,_⟩:=id h3
 obtain⟨t,e4,_⟩:=id h4
 subst e3;subst e4
 exact⟨(x.1,x.2.1,s,t,x.2.2.2.2),rfl,rfl,rfl,h3,h4,rfl,hz⟩
theorem ClsR.at{w:World}{s:Sl}{l:List ClsD}(h:ClsR w s l){i:Nat}{x:ClsD}(hx:l[i]? =some x):∃b o,∃v:ClsV,s.p=some ⟨b,o,none⟩/\CellsAt w b (o+i*5) (clsC v)/\ClsM w v x:=by
 obtain⟨b,o,c,h1,h2,h3⟩:=SlR.get h (by decide) hx
 obtain⟨v,rfl,h4⟩:=rep_cls h3
 exact⟨b,o,v,h1,h2,h4⟩
abbrev CatV:=Sl×List Value
structure CatM(w:World)(v:CatV)(x:CatD):Prop where
 cl:ClsR w v.1 x.1
 br:v.2=x.2.map fun n=>Value.int .i64 n
 b16:x.2.length=16
 brr:∀n∈x.2, -9223372036854775808<=n/\n<=9223372036854775807
theorem CatM.ext{w w':World}{v:CatV}{x:CatD}(h:CatM w v x)(e:Ext w w'):CatM w' v x:=⟨h.cl.ext e,h.br,h.b16,h.brr⟩
theorem F298_ok(t0:Int)(w:World)(R:RV)(h:IfB (decide (0<=t0)) (R (Value.bool (decide (t0<4))) w) (R (Value.bool false) w)):Cw 298 #[Qz t0] w R:=
 ckF Tryz.func298 .nil h (by kernel_rfl) (by kernel_rfl)
theorem F286_ok(t0:Int×Int)(t1:Int)(w:World)(R:RV)(h:AllocP w (Obj.cells #[Qz t0.1,Qz t0.2] 93) fun b1 w2=>Qi w2 b1 (0+0) fun n3=>IfB (decide ((-1:Int)<=n3)) (Qi w2 b1 (0+0) fun n4=>IfB (decide (n4<t1)) (Qi w2 b1 (0+1) fun n5=>IfB (decide (0<=n5)) (Qi w2 b1 (0+1) fun n6=>R (Value.bool (decide (n6<=900))) w2) (R (Value.bool false) w2)) (R (Value.bool false) w2)) (R (Value.bool false) w2)):Cw 286 #[Value.agg #[Qz t0.1,Qz t0.2],Qz t1] w R:=
 ckF Tryz.func286 .nil h (by kernel_rfl) (by kernel_rfl)
def F296k4(w9:World)(b1:Nat)(b7:Nat)(b3:Nat)(R:RV):Prop:=∃(x11:Int×Int),CellsAt w9 b1 (0+4) [Qz x11.1,Qz x11.2]/\#[Qz x11.1,Qz x11.2].size=2/\StoreP w9 b7 (0+4) [Qz x11.1,Qz x11.2] fun w12=>∃(x13:Int×Int×Int×Int×Int×Int×Int×Int×Int),CellsAt w12 b7 0 (lC95 x13)/\(lC95 x13).toArray.size=9/\StoreP w12 b3 0 (lC95 x13) fun w14=>∃(x15:Int×Int×Int×Int×Int×Int×Int×Int×Int),CellsAt w14 b3 0 (lC95 x15)/\R (Value.tuple #[Value.agg (lC95 x15).toArray,Value.bool true]) w14
def F296k7(w9:World)(b1:Nat)(b7:Nat)(b3:Nat)(R:RV):Prop:=∃(x22:Int×Int),CellsAt w9.drew b1 (0+4) [Qz x22.1,Qz x22.2]/\∃(x23:Int×Int),CellsAt w9.drew b1 (0+6) [Qz x23.1,Qz x23.2]/\#[Qz x22.1,Qz x22.2].size=2/\StoreP w9.drew b7 (0+4) [Qz x22.1,Qz x22.2] fun w24=>CellsAt w24 b1 (0+6) [Qz x23.1,Qz x23.2]/\#[Qz x23.1,Qz x23.2].size=2/\StoreP w24 b7 (0+6) [Qz x23.1,Qz x23.2] fun w25=>∃(x26:Int×Int×Int×Int×Int×Int×Int×Int×Int),CellsAt w25 b7 0 (lC95 x26)/\(lC95 x26).toArray.size=9/\StoreP w25 b3 0 (lC95 x26) fun w27=>∃(x28:Int×Int×Int×Int×Int×Int×Int×Int×Int),CellsAt w27 b3 0 (lC95 x28)/\R (Value.tuple #[Value.agg (lC95 x28).toArray,Value.bool true]) w27
def F296k5(w9:World)(b1:Nat)(b7:Nat)(b3:Nat)(R:RV):Prop:=Qi w9 b1 (0+8) fun n29=>#[Qz n29].size=1/\StoreP w9 b7 (0+8) [Qz n29] fun w30=>∃(x31:Int×Int×Int×Int×Int×Int×Int×Int×Int),CellsAt w30 b7 0 (lC95 x31)/\(lC95 x31).toArray.size=9/\StoreP w30 b3 0 (lC95 x31) fun w32=>∃(x33:Int×Int×Int×Int×Int×Int×Int×Int×Int),CellsAt w32 b3 0 (lC95 x33)/\R (Value.tuple #[Value.agg (lC95 x33).toArray,Value.bool true]) w32
def F296k3(w9:World)(b1:Nat)(b7:Nat)(b3:Nat)(R:RV):Prop:=Qi w9.drew b1 (0+2) fun n34=>Qi w9.drew b1 (0+3) fun n35=>#[Qz n34].size=1/\StoreP w9.drew b7 (0+2) [Qz n34] fun w36=>w36.cell? ⟨b1,0+3,none⟩=some (Qz n35)/\#[Qz n35].size=1/\StoreP w36 b7 (0+3) [Qz n35] fun w37=>∃(x38:Int×Int×Int×Int×Int×Int×Int×Int×Int),CellsAt w37 b7 0 (lC95 x38)/\(lC95 x38).toArray.size=9/\StoreP w37 b3 0 (lC95 x38) fun w39=>∃(x40:Int×Int×Int×Int×Int×Int×Int×Int×Int),CellsAt w39 b3 0 (lC95 x40)/\R (Value.tuple #[Value.agg (lC95 x40).toArray,Value.bool true]) w39
def F296k6(w9:World)(b7:Nat)(b3:Nat)(R:RV):Prop:=∃(x41:Int×Int×Int×Int×Int×Int×Int×Int×Int),CellsAt w9 b7 0 (lC95 x41)/\(lC95 x41).toArray.size=9/\StoreP w9 b3 0 (lC95 x41) fun w42=>∃(x43:Int×Int×Int×Int×Int×Int×Int×Int×Int),CellsAt w42 b3 0 (lC95 x43)/\R (Value.tuple #[Value.agg (lC95 x43).toArray,Value.bool false]) w42
def F296k2(n10:Int)(w9:World)(b1:Nat)(b7:Nat)(b3:Nat)(R:RV):Prop:=IfB (n10 == 6) (IfB (n10 == 6) (F296k3 w9 b1 b7 b3 R) (F296k6 w9 b7 b3 R)) (IfB (n10 == 7) (F296k3 w9 b1 b7 b3 R) (F296k6 w9 b7 b3 R))
def F296k1(n10:Int)(w9:World)(b1:Nat)(b7:Nat)(b3:Nat)(R:RV):Prop:=IfB (n10 == 3) (∃(x16:Int×Int),CellsAt w9.drew b1 (0+4) [Qz x16.1,Qz x16.2]/\#[Qz 0].size=1/\StoreP w9.drew b7 (0+1) [Qz 0] fun w17=>CellsAt w17 b1 (0+4) [Qz x16.1,Qz x16.2]/\#[Qz x16.1,Qz x16.2].size=2/\StoreP w17 b7 (0+4) [Qz x16.1,Qz x16.2] fun w18=>∃(x19:Int×Int×Int×Int×Int×Int×Int×Int×Int),CellsAt w18 b7 0 (lC95 x19)/\(lC95 x19).toArray.size=9/\StoreP w18 b3 0 (lC95 x19) fun w20=>∃(x21:Int×Int×Int×Int×Int×Int×Int×Int×Int),CellsAt w20 b3 0 (lC95 x21)/\R (Value.tuple #[Value.agg (lC95 x21).toArray,Value.bool true]) w20) (IfB (n10 == 4) (F296k7 w9 b1 b7 b3 R) (IfB (n10 == 5) (IfB (n10 == 5) (F296k5 w9 b1 b7 b3 R) (F296k2 n10 w9 b1 b7 b3 R)) (IfB (n10 == 8) (F296k5 w9 b1 b7 b3 R) (F296k2 n10 w9 b1 b7 b3 R))))
theorem F296_ok(t0:Int×Int×Int×Int×Int×Int×Int×Int×Int)(w:World)(R:RV)(h:AllocP w (Obj.cells (lC95 t0).toArray 95) fun b1 w2=>AllocP w2 (Obj.cells #[Qz 0,Qz 0,Qz 0,Qz 0,Qz 0,Qz 0,Qz 0,Qz 0,Qz 0] 95) fun b3 w4=>Qi w4 b1 (0+0) fun n5=>Qi w4 b1 (0+1) fun n6=>AllocP w4 (Obj.cells #[Qz 0,Qz 0,Qz 0,Qz 0,Qz 0,Qz 0,Qz 0,Qz 0,Qz 0] 95) fun b7 w8=>#[Qz n5,Qz n6,Qz 0,Qz 0,Qz 0,Qz 0,Qz 0,Qz 0,Qz 0].size=9/\StoreP w8 b7 0 [Qz n5,Qz n6,Qz 0,Qz 0,Qz 0,Qz 0,Qz 0,Qz 0,Qz 0] fun w9=>Qi w9 b1 (0+0) fun n10=>IfB (n10 == 1) (IfB (n10 == 1) (F296k4 w9 b1 b7 b3 R) (F296k1 n10 w9 b1 b7 b3 R)) (IfB (n10 == 2) (F296k4 w9 b1 b7 b3 R) (F296k1 n10 w9 b1 b7 b3 R))):Cw 296 #[(.agg (lC95 t0).toArray)] w R:=
 ckF Tryz.func296 (nd (nd (.node (nd (nd (nd (nd (.node (.draw (sts [0,1,2] (.ac 3 [1,0] (.st 4 (.ac 5 [] .fin .non)) .non))) (nd (.node (.draw (sts [0,1,2,3,4] (.ac 5 [3,2] (.st 6 (.ac 7 [] .fin .non)) .non))) (nd (nd (nd (.node (.draw (sts [0,1,2,3,4] (.ac 5 [3,2] (.st 6 (.ac 7 [] .fin .non)) .non))) .nil))))))))))) .nil))) h (by kernel_rfl) (by kernel_rfl)
def F300k1(n3:Int)(w2:World)(b1:Nat)(R:RV):Prop:=IfB (n3 == 4) (∃(x7:Int×Int),CellsAt w2 b1 (0+4) [Qz x7.1,Qz x7.2]/\∃(x8:Int×Int),CellsAt w2 b1 (0+6) [Qz x8.1,Qz x8.2]/\2*2<=16777216/\AllocP w2 (Obj.cells #[Qz x7.1,Qz x7.2,Qz x8.1,Qz x8.2] 93) fun b9 w10=>R (Value.slice (some ⟨b9,0,none⟩) 2 2) w10) (R (Value.slice none 0 0) w2)
theorem F300_ok(t0:Int×Int×Int×Int×Int×Int×Int×Int×Int)(w:World)(R:RV)(h:AllocP w (Obj.cells (lC95 t0).toArray 95) fun b1 w2=>Qi w2 b1 (0+0) fun n3=>IfB (n3 == 1) (IfB (n3 == 1) (∃(x4:Int×Int),CellsAt w2 b1 (0+4) [Qz x4.1,Qz x4.2]/\1*2<=16777216/\AllocP w2 (Obj.cells #[Qz x4.1,Qz x4.2] 93) fun b5 w6=>R (Value.slice (some ⟨b5,0,none⟩) 1 1) w6) (F300k1 n3 w2 b1 R)) (IfB (n3 == 2) (IfB (n3 == 2) (∃(x11:Int×Int),CellsAt w2 b1 (0+4) [Qz x11.1,Qz x11.2]/\1*2<=16777216/\AllocP w2 (Obj.cells #[Qz x11.1,Qz x11.2] 93) fun b12 w13=>R (Value.slice (some ⟨b12,0,none⟩) 1 1) w13) (F300k1 n3 w2 b1 R)) (IfB (n3 == 3) (∃(x18:Int×Int),CellsAt w2 b1 (0+4) [Qz x18.1,Qz x18.2]/\1*2<=16777216/\AllocP w2 (Obj.cells #[Qz x18.1,Qz x18.2] 93) fun b19 w20=>R (Value.slice (some ⟨b19,0,none⟩) 1 1) w20) (F300k1 n3 w2 b1 R)))):Cw 300 #[(.agg (lC95 t0).toArray)] w R:=
 ckF Tryz.func300 .nil h (by kernel_rfl) (by kernel_rfl)
def F273k1(w11:World)(b1:Nat)(b9:Nat)(b3:Nat)(R:RV):Prop:=∃(x12:Int×Int×Int×Int×Int×Int×Int×Int×Int),CellsAt w11 b1 0 (lC95 x12)/\∃(x13:Int×Int×Int×Int×Int×Int×Int×Int×Int),CellsAt w11 b9 0 (lC95 x13)/\∃t14:Bool,EqAt Tryz.prog 95 (Value.agg (lC95 x12).toArray) (Value.agg (lC95 x13).toArray) t14/\IfB t14 (Qi w11 b1 (0+1) fun n15=>Qv' 298 #[Qz n15] w11 fun t18 w17=>IfB t18 (Qi w17 b1 (0+2) fun n19=>Qv' 298 #[Qz n19] w17 fun t22 w21=>IfB t22 (Qi w21 b1 (0+3) fun n23=>Qv' 298 #[Qz n23] w21 fun t26 w25=>IfB t26 (∃(x27:Int×Int×Int×Int×Int×Int×Int×Int×Int),CellsAt w25 b1 0 (lC95 x27)/\Qu' 300 #[Value.agg (lC95 x27).toArray] w25 fun s30 w29=>Qv' 299 #[Qy s30,Value.func (Fn.func 297) #[] #[Value.pointer (some ⟨b3,0,none⟩)]] w29 fun t33 w32=>R (Value.bool !t33) w32) (R (Value.bool false) w25)) (R (Value.bool false) w21)) (R (Value.bool false) w17)) (R (Value.bool false) w11)
theorem F273_ok(t0:Int×Int×Int×Int×Int×Int×Int×Int×Int)(t1:Int)(w:World)(R:RV)(h:AllocP w (Obj.cells (lC95 t0).toArray 95) fun b1 w2=>AllocP w2 (Obj.cells #[Qz t1] 3) fun b3 w4=>∃(x5:Int×Int×Int×Int×Int×Int×Int×Int×Int),CellsAt w4 b1 0 (lC95 x5)/\Cx 296 #[Value.agg (lC95 x5).toArray] w4 fun v6 w7=>∃(x8:(Int×Int×Int×Int×Int×Int×Int×Int×Int)×Bool),v6=Value.tuple #[Value.agg (lC95 x8.fst).toArray,Value.bool x8.2]/\AllocP w7 (Obj.cells #[Qz 0,Qz 0,Qz 0,Qz 0,Qz 0,Qz 0,Qz 0,Qz 0,Qz 0] 95) fun b9 w10=>(lC95 x8.fst).toArray.size=9/\StoreP w10 b9 0 (lC95 x8.fst) fun w11=>IfB x8.2 (F273k1 w11 b1 b9 b3 R) (R (Value.bool false) w11)):Cw 273 #[(.agg (lC95 t0).toArray),Qz t1] w R:=
 ckF Tryz.func273 .nil h (by kernel_rfl) (by kernel_rfl)
theorem F297_ok(t0:Int×Int)(t1:Nat)(w:World)(R:RV)(h:AllocP w (Obj.cells #[Qz t0.1,Qz t0.2] 93) fun b1 w2=>∃(x3:Int×Int),CellsAt w2 b1 0 [Qz x3.1,Qz x3.2]/\∃n4:Int,w2.cell? ⟨t1,0,none⟩=some (Qz n4)/\Qv' 286 #[Value.agg #[Qz x3.1,Qz x3.2],Qz n4] w2 fun t7 w6=>R (Value.bool !t7) w6):Cw 297 #[Value.agg #[Qz t0.1,Qz t0.2],Value.pointer (some ⟨t1,0,none⟩)] w R:=
 ckF Tryz.func297 .nil h (by kernel_rfl) (by kernel_rfl)
theorem F236_ok(t0:Sl)(t1:Int)(w:World)(R:RV)(h:AllocP w (Obj.cells #[Qz t1] 3) fun b1 w2=>Qi w2 b1 0 fun n3=>IfB (decide (n3<0)) (R (Value.bool false) w2) (Qi w2 b1 0 fun n4=>IfB (decide (3<n4)) (R (Value.bool false) w2) (IfB (decide ((t0.n:Int)<1)) (R (Value.bool false) w2) (IfB (decide (8<(t0.n:Int))) (R (Value.bool false) w2) (Qv' 271 #[Qy t0,Value.func (Fn.func 272) #[] #[Value.pointer (some ⟨b1,0,none⟩)]] w2 fun t7 w6=>R (Value.bool !t7) w6))))):Cw 236 #[Qy t0,Qz t1] w R:=
 ckF Tryz.func236 .nil h (by kernel_rfl) (by kernel_rfl)
theorem F272_ok(t0:Int×Int×Int×Int×Int×Int×Int×Int×Int)(t1:Nat)(w:World)(R:RV)(h:AllocP w (Obj.cells (lC95 t0).toArray 95) fun b1 w2=>∃(x3:Int×Int×Int×Int×Int×Int×Int×Int×Int),CellsAt w2 b1 0 (lC95 x3)/\∃n4:Int,w2.cell? ⟨t1,0,none⟩=some (Qz n4)/\Qv' 273 #[Value.agg (lC95 x3).toArray,Qz n4] w2 fun t7 w6=>R (Value.bool !t7) w6):Cw 272 #[(.agg (lC95 t0).toArray),Value.pointer (some ⟨t1,0,none⟩)] w R:=
 ckF Tryz.func272 .nil h (by kernel_rfl) (by kernel_rfl)
theorem F277_ok(t0:Sl)(w:World)(R:RV)(h:Cx 271 #[Qy t0,Value.func (Fn.func 302) #[] #[]] w fun v1 w2=>∃t3:Bool,v1=Value.bool t3/\R (Value.bool !t3) w2):Cw 277 #[Qy t0] w R:=
 ckF Tryz.func277 .nil h (by kernel_rfl) (by kernel_rfl)
theorem F302_ok(t0:Int×Int×Int×Int×Int×Int×Int×Int×Int)(w:World)(R:RV)(h:AllocP w (Obj.cells (lC95 t0).toArray 95) fun b1 w2=>Qi w2 b1 (0+0) fun n3=>IfB (n3 == 6) (R (Value.bool true) w2) (Qi w2 b1 (0+0) fun n4=>IfB (n4 == 7) (R (Value.bool true) w2) (Qi w2 b1 (0+0) fun n5=>R (Value.bool (n5 == 8)) w2))):Cw 302 #[(.agg (lC95 t0).toArray)] w R:=
 ckF Tryz.func302 .nil h (by kernel_rfl) (by kernel_rfl)
theorem F271_ok(t0:Sl)(t1:Nat×Array Value)(w:World)(R:RV)(h:Cx 295 #[Qy t0,Value.func (Fn.func t1.1) #[] t1.2] w fun v1 w2=>∃n3:Int,v1=Qz n3/\R (Value.bool (decide (0<=n3))) w2):Cw 271 #[Qy t0,Value.func (Fn.func t1.1) #[] t1.2] w R:=
 ckF Tryz.func271 .nil h (by kernel_rfl) (by kernel_rfl)
def F295j1(t0:Sl)(t1:Nat×Array Value)(R:RV)(y1:Nat->Int->World->Prop)(b3:Nat)(n4:Int)(w5:World):Prop:=IfB (decide (n4<(t0.n:Int))) (Qx t0.1 n4 (t0.2:Int) fun b8 b9=>∃(x10:Int×Int×Int×Int×Int×Int×Int×Int×Int),CellsAt w5 b8 (b9+n4.toNat*9) (lC95 x10)/\Cx t1.1 { toList:=(.agg (lC95 x10).toArray)::t1.snd.1 } w5 fun v11 w12=>∃t13:Bool,v11=Value.bool t13/\IfB t13 (R (Qz n4) w12) (Qn y1 b3 (IntKind.i64.wrap (n4+1)) w12)) (R (Qz (-1:Int)) w5)
def F295(t0:Sl)(t1:Nat×Array Value)(w:World)(R:RV):Prop:=Ql (α:=Int) 0 w fun y1 b3 n4 w5=>(F295j1 t0 t1 R y1 b3 n4 w5)
theorem F295_ok(t0:Sl)(t1:Nat×Array Value)(w:World)(R:RV)(h:F295 t0 t1 w R):Cw 295 #[Qy t0,Value.func (Fn.func t1.1) #[] t1.2] w R:=
 ckF Tryz.func295 (nd (.node (nd (.loop [(8,oi)] (rg [4,5,8,18]) .nil)) .nil)) h (by kernel_rfl) (by kernel_rfl)
theorem F299_ok(t0:Sl)(t1:Nat×Array Value)(w:World)(R:RV)(h:Cx 308 #[Qy t0,Value.func (Fn.func t1.1) #[] t1.2] w fun v1 w2=>∃n3:Int,v1=Qz n3/\R (Value.bool (decide (0<=n3))) w2):Cw 299 #[Qy t0,Value.func (Fn.func t1.1) #[] t1.2] w R:=
 ckF Tryz.func299 .nil h (by kernel_rfl) (by kernel_rfl)
def F308j1(t0:Sl)(t1:Nat×Array Value)(R:RV)(y1:Nat->Int->World->Prop)(b3:Nat)(n4:Int)(w5:World):Prop:=IfB (decide (n4<(t0.n:Int))) (Qx t0.1 n4 (t0.2:Int) fun b8 b9=>∃(x10:Int×Int),CellsAt w5 b8 (b9+n4.toNat*2) [Qz x10.1,Qz x10.2]/\Cx t1.1 { toList:=Value.agg #[Qz x10.1,Qz x10.2]::t1.snd.1 } w5 fun v11 w12=>∃t13:Bool,v11=Value.bool t13/\IfB t13 (R (Qz n4) w12) (Qn y1 b3 (IntKind.i64.wrap (n4+1)) w12)) (R (Qz (-1:Int)) w5)
def F308(t0:Sl)(t1:Nat×Array Value)(w:World)(R:RV):Prop:=Ql (α:=Int) 0 w fun y1 b3 n4 w5=>(F308j1 t0 t1 R y1 b3 n4 w5)
theorem F308_ok(t0:Sl)(t1:Nat×Array Value)(w:World)(R:RV)(h:F308 t0 t1 w R):Cw 308 #[Qy t0,Value.func (Fn.func t1.1) #[] t1.2] w R:=
 ckF Tryz.func308 (nd (.node (nd (.loop [(8,oi)] (rg [4,5,8,18]) .nil)) .nil)) h (by kernel_rfl) (by kernel_rfl)
theorem any_idx{α:Type}(xs:List α)(q:α->Bool):decide (0<=idxV (xs.findIdx? q))=xs.any q:=by
 cases hf:xs.findIdx? q with
 | none=>
  have:=List.findIdx?_eq_none_iff.1 hf
  rw[show xs.any q=false from by rw[List.any_eq_false];intro x hx;rw[this x hx];simp]
  simp[idxV]
 | some i=>
  obtain⟨hi,hqi,_⟩:=List.findIdx?_eq_some_iff_getElem.1 hf
  rw[show xs.any q=true from List.any_eq_true.2 ⟨_,List.getElem_mem hi,hqi⟩]
  simp[idxV]
theorem storeC{w:World}{b o:Nat}{vs:List Value}{old:Array Value}{T:TypeId}{K:World->Prop}(hb:w.heap[b]? =some (.cells old T (0,0)))(h0:vs≠[])(hl:o+vs.length<=old.size)(h1:One vs)
  (hK:∀w',w'.heap[b]? =some (.cells (spliceL old.toList o vs).toArray T (0,0))->Ch (fun i=>i=b) w w'->K w'):StoreP w b o vs K:=by
 cases vs with
 | nil=>exact absurd rfl h0
 | cons v vs=>
  refine⟨old,T,hb,by simpa using hl,h1,fun w' hu=>hK w' ?_ hu.ch⟩
  rw[hu.new,setsA_eq _ _ _ (by simpa using hl)]
theorem boxAt{w w':World}{b:Nat}{cs:List Value}{T:TypeId}(h:w.heap[b]? =some (.cells cs.toArray T (0,0)))(o:Nat)(e:Ext w w'):w'.cell? ⟨b,0+o,none⟩=cs[o]? :=by
 rw[cell_of (e.at h),Nat.zero_add];exact List.getElem?_toArray ..
theorem boxAll{w w':World}{b:Nat}{cs:List Value}{T:TypeId}(h:w.heap[b]? =some (.cells cs.toArray T (0,0)))(e:Ext w w'):CellsAt w' b 0 cs:=cellsAt_of (e.at h) fun i v hv=>by rw[Nat.zero_add];simpa using hv
abbrev keyV(k:KeyD):Value:=.agg #[.int .i64 k.1,.int .i64 k.2]
theorem c298(n:Int)(w:World):Cw 298 #[iv n] w fun v w'=>v=.bool (decide (0<=n/\n<4))/\w=w':=
 F298_ok n w _ (IfB.dec (fun h=>⟨by simp[h],rfl⟩) fun h=>⟨by simp[h],rfl⟩)
theorem c286(k:KeyD)(n:Int)(w:World):Cw 286 #[keyV k,iv n] w fun v w'=>∃r,v=.bool r/\(r=true↔KeyOk k n)/\Ext w w':=by
 refine F286_ok k n w _ fun b1 w2 a2=>?_
 have e2:Ext w w2:=a2.ch _
 have q:=fun(o:Nat)=>boxAt (cs:=keyC k) a2.new o (Ch.refl _ _)
 refine⟨_,q 0,IfB.dec (fun h1=>⟨_,q 0,IfB.dec (fun h2=>⟨_,q 1,IfB.dec (fun h3=>⟨_,q 1,_,rfl,?_,e2⟩) fun h3=>⟨false,rfl,⟨fun h=>(by cases h),fun h=>absurd h.2.2.1 h3⟩,e2⟩⟩) fun h2=>⟨false,rfl,⟨fun h=>(by cases h),fun h=>absurd h.2.1 h2⟩,e2⟩⟩) fun h1=>⟨false,rfl,⟨fun h=>(by cases h),fun h=>absurd h.1 h1⟩,e2⟩⟩
 rw[decide_eq_true_eq]
 exact⟨fun h=>⟨h1,h2,h3,h⟩,fun h=>h.2.2.2⟩
abbrev insV(x:InsD):Value:=.agg (insC x).toArray
abbrev InsX:=Int×Int×Int×Int×Int×Int×Int×Int×Int
abbrev insX(x:InsD):InsX:=(x.1,x.2.1,x.2.2.1,x.2.2.2.1,x.2.2.2.2.1.1,x.2.2.2.2.1.2,x.2.2.2.2.2.1.1,x.2.2.2.2.2.1.2,x.2.2.2.2.2.2)
def onlyF(x:InsD):InsX×Bool:=
 if x.1=1\/x.1=2 then ((x.1,x.2.1,0,0,x.2.2.2.2.1.1,x.2.2.2.2.1.2,0,0,0),true)
 else if x.1=3 then ((x.1,0,0,0,x.2.2.2.2.1.1,x.2.2.2.2.1.2,0,0,0),true)
 else if x.1=4 then ((x.1,x.2.1,0,0,x.2.2.2.2.1.1,x.2.2.2.2.1.2,x.2.2.2.2.2.1.1,x.2.2.2.2.2.1.2,0),true)
 else if x.1=5\/x.1=8 then ((x.1,x.2.1,0,0,0,0,0,0,x.2.2.2.2.2.2),true)
 else if x.1=6\/x.1=7 then ((x.1,x.2.1,x.2.2.1,x.2.2.2.1,0,0,0,0,0),true)
 else ((x.1,x.2.1,0,0,0,0,0,0,0),false)
theorem lC_one(y:InsX):One (lC95 y):=by intro v hv;simp at hv;rcases hv with rfl|rfl|rfl|rfl|rfl|rfl|rfl|rfl|rfl<;>rfl
theorem only_end{w:World}{b3 b7:Nat}{y:InsX}{r:Bool}{R:RV}(h7:∃T,w.heap[b7]? =some (.cells (lC95 y).toArray T (0,0)))(h3:∃z T,w.heap[b3]? =some (.cells z T (0,0))/\z.size=9)
  (hR:∀w',Ch (fun i=>i=b3) w w'->R (.tuple #[.agg (lC95 y).toArray,.bool r]) w'):
  ∃x:InsX,CellsAt w b7 0 (lC95 x)/\(lC95 x).toArray.size=9/\StoreP w b3 0 (lC95 x) fun w'=>∃x':InsX,CellsAt w' b3 0 (lC95 x')/\R (.tuple #[.agg (lC95 x').toArray,.bool r]) w':=by
 obtain⟨T,h7⟩:=h7
 obtain⟨z,T',h3,hz⟩:=h3
 refine⟨y,boxAll h7 (Ch.refl _ _),rfl,store_all (vs:=lC95 y) h3 (by rw[hz];rfl) (lC_one y) fun w' hu=>⟨y,?_,hR w' hu.ch⟩⟩
 exact boxAll (cs:=lC95 y) hu.new (Ch.refl _ _)
theorem only_ok(x:InsD)(w:World){R:RV}(hR:∀w',Ext w w'->R (.tuple #[.agg (lC95 (onlyF x).1).toArray,.bool (onlyF x).2]) w'):Cw 296 #[insV x] w R:=by
 refine F296_ok (insX x) w _ fun b1 w2 a2 b3 w4 a4=>?_
 have p2:=a2.here;have z2:=a2.size;have p4:=a4.here;have z4:=a4.size
 have e4:Ext w w4:=(a2.ch _).trans (a4.ch _)
 have B1:=a4.at a2.new
 have q:=fun(o:Nat)=>boxAt (cs:=insC x) B1 o (Ch.refl _ _)
 refine⟨_,q 0,_,q 1,fun b7 w8 a8=>⟨rfl,store_all (vs:=lC95 (x.1,x.2.1,0,0,0,0,0,0,0)) a8.new rfl (lC_one _) fun w9 u9=>?_⟩⟩
 have p8:=a8.here
 have C1:w9.heap[b1]? =some (.cells (insC x).toArray 95 (0,0)):=u9.at (a8.at B1) (by omega)
 have C3:=u9.at (a8.at a4.new) (show b3≠b7 by omega)
 have C7:=u9.new
 have e9:Ext w w9:=(e4.trans (a8.ch _)).chN u9.ch fun j e=>by omega
 have fin:∀ {w':World}{y:InsX}{r:Bool},(∃T,w'.heap[b7]? =some (.cells (lC95 y).toArray T (0,0)))->Ch (fun i=>i=b7) w9 w'->(y,r)=onlyF x->
   ∃x':InsX,CellsAt w' b7 0 (lC95 x')/\(lC95 x').toArray.size=9/\StoreP w' b3 0 (lC95 x') fun w''=>∃x'':InsX,CellsAt w'' b3 0 (lC95 x'')/\R (.tuple #[.agg (lC95 x'').toArray,.bool r]) w'':=fun{w' y r} h7 hC hy=>by
  refine only_end h7 ⟨_,_,hC.at C3 (by omega),rfl⟩ fun w'' hC'=>?_
  have:=hR w'' ?_
  ·rw[<-hy] at this;exact this
  exact(e9.chN hC fun j e=>by omega).chN hC' fun j e=>by omega
 have g:=fun(o:Nat)=>boxAt (cs:=insC x) C1 o (Ch.refl _ _)
 have ed:=extDrew w9
 have gd:=fun(o:Nat)=>boxAt (cs:=insC x) C1 o ed
 have K4:∀ {W:World},Ch (fun i=>i=b7) w9 W->CellsAt W b1 (0+4) [.int .i64 x.2.2.2.2.1.1,.int .i64 x.2.2.2.2.1.2]:=fun hC=>cellsAt_of (hC.at C1 (by omega)) fun i v hv=>by
  match i,hv with
  | 0,hv=>exact hv
  | 1,hv=>exact hv
 have K6:∀ {W:World},Ch (fun i=>i=b7) w9 W->CellsAt W b1 (0+6) [.int .i64 x.2.2.2.2.2.1.1,.int .i64 x.2.2.2.2.2.1.2]:=fun hC=>cellsAt_of (hC.at C1 (by omega)) fun i v hv=>by
  match i,hv with
  | 0,hv=>exact hv
  | 1,hv=>exact hv
 have one2:∀a b:Int,One [.int .i64 a,.int .i64 b]:=fun a b v hv=>by simp at hv;rcases hv with rfl|rfl<;>rfl
 have r0:Ch (fun i=>i=b7) w9 w9:=Ch.refl _ _
 have rd:Ch (fun i=>i=b7) w9 w9.drew:=ed.mono fun _ _ h=>h.elim
 refine⟨_,g 0,?_⟩
 have o1:x.1=1\/x.1=2->F296k4 w9 b1 b7 b3 R:=fun h=>by
  refine⟨(_,_),K4 r0,rfl,storeC C7 (by simp) (Nat.le_of_ble_eq_true rfl) (one2 _ _) fun w' h' c'=>fin (y:=(x.1,x.2.1,0,0,x.2.2.2.2.1.1,x.2.2.2.2.1.2,0,0,0)) ⟨_,h'⟩ c' ?_⟩
  unfold onlyF;rw[if_pos h]
 have o5:x.1=5\/x.1=8->F296k5 w9 b1 b7 b3 R:=fun h=>by
  refine⟨_,g 8,rfl,storeC C7 (by simp) (Nat.le_of_ble_eq_true rfl) (oneIv _) fun w' h' c'=>fin (y:=(x.1,x.2.1,0,0,0,0,0,0,x.2.2.2.2.2.2)) ⟨_,h'⟩ c' ?_⟩
  unfold onlyF;rw[if_neg (by omega),if_neg (by omega),if_neg (by omega),if_pos h]
 have o6:x.1=6\/x.1=7->F296k3 w9 b1 b7 b3 R:=fun h=>by
  refine⟨_,gd 2,_,gd 3,rfl,storeC (ed.at C7) (by simp) (Nat.le_of_ble_eq_true rfl) (oneIv _) fun w' h' c'=>?_⟩
  have c:=rd.trans c'
  refine⟨by rw[cell_of (c.at C1 (by omega))];rfl,rfl,storeC h' (by simp) (Nat.le_of_ble_eq_true rfl) (oneIv _) fun w'' h'' c''=>fin (y:=(x.1,x.2.1,x.2.2.1,x.2.2.2.1,0,0,0,0,0)) ⟨_,h''⟩ (c.trans c'') ?_⟩
  unfold onlyF;rw[if_neg (by omega),if_neg (by omega),if_neg (by omega),if_neg (by omega),if_pos h]
 have o0:¬(1<=x.1/\x.1<=8)->F296k6 w9 b7 b3 R:=fun h=>by
  refine fin (y:=(x.1,x.2.1,0,0,0,0,0,0,0)) ⟨_,C7⟩ r0 ?_
  unfold onlyF;rw[if_neg (by omega),if_neg (by omega),if_neg (by omega),if_neg (by omega),if_neg (by omega)]
 have rest:¬(x.1=1\/x.1=2)->F296k1 x.1 w9 b1 b7 b3 R:=fun h=>by
  have k2:¬(x.1=3\/x.1=4\/x.1=5\/x.1=8)->F296k2 x.1 w9 b1 b7 b3 R:=fun h'=>by
   refine IfB.intro (fun h6=>IfB.yes h6 (o6 (.inl (by simpa using h6)))) fun h6=>IfB.intro (fun h7=>o6 (.inr (by simpa using h7))) fun h7=>o0 ?_
   have h6:¬x.1=6:=by simpa using h6
   have h7:¬x.1=7:=by simpa using h7
   omega
  refine IfB.intro (fun h3=>?_) fun h3=>?_
  ·have h3:x.1=3:=by simpa using h3
   refine⟨(_,_),K4 rd,rfl,storeC (ed.at C7) (by simp) (Nat.le_of_ble_eq_true rfl) (oneIv _) fun w' h' c'=>?_⟩
   have c:=rd.trans c'
   refine⟨K4 c,rfl,storeC h' (by simp) (Nat.le_of_ble_eq_true rfl) (one2 _ _) fun w'' h'' c''=>fin (y:=(x.1,0,0,0,x.2.2.2.2.1.1,x.2.2.2.2.1.2,0,0,0)) ⟨_,h''⟩ (c.trans c'') ?_⟩
   unfold onlyF;rw[if_neg (by omega),if_pos h3]
  ·have h3:¬x.1=3:=by simpa using h3
   refine IfB.intro (fun h4=>?_) fun h4=>?_
   ·have h4:x.1=4:=by simpa using h4
    refine⟨(_,_),K4 rd,(_,_),K6 rd,rfl,storeC (ed.at C7) (by simp) (Nat.le_of_ble_eq_true rfl) (one2 _ _) fun w' h' c'=>?_⟩
    have c:=rd.trans c'
    refine⟨K6 c,rfl,storeC h' (by simp) (Nat.le_of_ble_eq_true rfl) (one2 _ _) fun w'' h'' c''=>fin (y:=(x.1,x.2.1,0,0,x.2.2.2.2.1.1,x.2.2.2.2.1.2,x.2.2.2.2.2.1.1,x.2.2.2.2.2.1.2,0)) ⟨_,h''⟩ (c.trans c'') ?_⟩
    unfold onlyF;rw[if_neg (by omega),if_neg (by omega),if_pos h4]
   ·have h4:¬x.1=4:=by simpa using h4
    refine IfB.intro (fun h5=>IfB.yes h5 (o5 (.inl (by simpa using h5)))) fun h5=>IfB.intro (fun h8=>o5 (.inr (by simpa using h8))) fun h8=>k2 ?_
    have h5:¬x.1=5:=by simpa using h5
    have h8:¬x.1=8:=by simpa using h8
    omega
 refine IfB.intro (fun h1=>IfB.yes h1 (o1 (.inl (by simpa using h1)))) fun h1=>IfB.intro (fun h2=>o1 (.inr (by simpa using h2))) fun h2=>rest ?_
 have h1:¬x.1=1:=by simpa using h1
 have h2:¬x.1=2:=by simpa using h2
 omega
theorem c296(x:InsD)(w:World):Cw 296 #[insV x] w fun v w'=>v=.tuple #[.agg (lC95 (onlyF x).1).toArray,.bool (onlyF x).2]/\Ext w w':=only_ok x w fun _ e=>⟨rfl,e⟩
noncomputable def bq(p:Prop):Bool:= @decide p (Classical.propDecidable p)
theorem bq_iff{p:Prop}:bq p=true↔p:=by unfold bq;exact @decide_eq_true_iff p (Classical.propDecidable p)
theorem bq_neg{p:Prop}{r:Bool}(h:r=true↔p):(!r)=bq (¬p):=by rw[Bool.eq_iff_iff,bq_iff,Bool.not_eq_true',<-Bool.not_eq_true,h]
theorem any_bq{α:Type}{l:List α}{P:α->Prop}:l.any (fun x=>bq (¬P x))=false↔∀x∈l,P x:=by
 rw[List.any_eq_false]
 exact⟨fun h x hx=>Classical.not_not.1 fun hn=>h x hx (bq_iff.2 hn),fun h x hx hn=>bq_iff.1 hn (h x hx)⟩
def eqI(x y:InsX):Bool:=(x.1 == y.1)&&((x.2.1 == y.2.1)&&((x.2.2.1 == y.2.2.1)&&((x.2.2.2.1 == y.2.2.2.1)&&(((x.2.2.2.2.1 == y.2.2.2.2.1)&&((x.2.2.2.2.2.1 == y.2.2.2.2.2.1)&&true))&&(((x.2.2.2.2.2.2.1 == y.2.2.2.2.2.2.1)&&((x.2.2.2.2.2.2.2.1 == y.2.2.2.2.2.2.2.1)&&true))&&((x.2.2.2.2.2.2.2.2 == y.2.2.2.2.2.2.2.2)&&true))))))
theorem eqI_iff(x y:InsX):eqI x y=true↔x=y:=by
 obtain⟨a1,a2,a3,a4,a5,a6,a7,a8,a9⟩:=x
 obtain⟨b1,b2,b3,b4,b5,b6,b7,b8,b9⟩:=y
 simp[eqI]
 intros
 exact⟨fun⟨⟨h5,h6⟩,⟨h7,h8⟩,h9⟩=>⟨h5,h6,h7,h8,h9⟩,fun⟨h5,h6,h7,h8,h9⟩=>⟨⟨h5,h6⟩,⟨h7,h8⟩,h9⟩⟩
theorem eqIns(x y:InsX):EqAt Tryz.prog 95 (.agg (lC95 x).toArray) (.agg (lC95 y).toArray) (eqI x y):=
 eqAt_struct tbOk (d:=3) (by decide) (t:=95) (xs:=(lC95 x).toArray) (ys:=(lC95 y).toArray) (b:=eqI x y) (by kernel_rfl) (by kernel_rfl)
def keysOf(x:InsD):List KeyD:=if x.1=1\/x.1=2\/x.1=3 then [x.2.2.2.2.1] else if x.1=4 then [x.2.2.2.2.1,x.2.2.2.2.2.1] else []
theorem keysOf_len(x:InsD):(keysOf x).length<=2:=by
 unfold keysOf
 split
 ·exact Nat.le_succ 1
 ·split
  ·exact Nat.le_refl 2
  ·exact Nat.zero_le 2
theorem insOk_iff(x:InsD)(n:Int):InsOk x n↔(onlyF x).2=true/\insX x=(onlyF x).1/\(0<=x.2.1/\x.2.1<4)/\(0<=x.2.2.1/\x.2.2.1<4)/\(0<=x.2.2.2.1/\x.2.2.2.1<4)/\∀k∈keysOf x,KeyOk k n:=by
 obtain⟨o,a,b,c,⟨k1,k2⟩,⟨l1,l2⟩,X⟩:=x
 constructor
 ·rintro⟨h1,h2,h3,h4,h5,h6,h7,h8,h9,h10,h11,h12⟩
  dsimp only at*
  have:o=1\/o=2\/o=3\/o=4\/o=5\/o=6\/o=7\/o=8:=by omega
  rcases this with rfl|rfl|rfl|rfl|rfl|rfl|rfl|rfl<;>simp_all [onlyF,keysOf,insX]<;>omega
 ·rintro⟨h1,h2,h3,h4,h5,h6⟩
  dsimp only at*
  have:o=1\/o=2\/o=3\/o=4\/o=5\/o=6\/o=7\/o=8\/¬(1<=o/\o<=8):=by omega
  rcases this with rfl|rfl|rfl|rfl|rfl|rfl|rfl|rfl|ho
  all_goals first
   | (exfalso;unfold onlyF at h1;rw[if_neg (by dsimp only;omega),if_neg (by dsimp only;omega),if_neg (by dsimp only;omega),if_neg (by dsimp only;omega),if_neg (by dsimp only;omega)] at h1;cases h1)
   | (simp[onlyF,keysOf,insX] at h1 h2 h6;refine⟨?_,?_,?_,?_,?_,?_,?_,?_,?_,?_,?_,?_⟩<;>dsimp only<;>simp_all<;>omega)
theorem c300(x:InsD)(w:World):Cw 300 #[insV x] w fun v w'=>∃t',v=slV t'/\Rd w' t' 2 ((keysOf x).flatMap keyC)/\Ext w w':=by
 refine F300_ok (insX x) w _ fun b1 w2 a2=>?_
 have e2:Ext w w2:=a2.ch _
 have r:=Ch.refl (fun _=>False) w2
 have q0:=boxAt (cs:=insC x) a2.new 0 r
 have qK:CellsAt w2 b1 (0+4) (keyC x.2.2.2.2.1):=cellsAt_of a2.new fun i v hv=>by
  match i,hv with
  | 0,hv=>exact hv
  | 1,hv=>exact hv
 have qL:CellsAt w2 b1 (0+6) (keyC x.2.2.2.2.2.1):=cellsAt_of a2.new fun i v hv=>by
  match i,hv with
  | 0,hv=>exact hv
  | 1,hv=>exact hv
 have one:(x.1=1\/x.1=2\/x.1=3)->∃y:Int×Int,CellsAt w2 b1 (0+4) [.int .i64 y.1,.int .i64 y.2]/\1*2<=16777216/\AllocP w2 (.cells #[.int .i64 y.1,.int .i64 y.2] 93) fun b5 w6=>(fun(v:Value) w'=>∃t',v=slV t'/\Rd w' t' 2 ((keysOf x).flatMap keyC)/\Ext w w') (.slice (some ⟨b5,0,none⟩) 1 1) w6:=fun h=>by
  refine⟨x.2.2.2.2.1,qK,by decide,fun b5 w6 a6=>⟨⟨some ⟨b5,0,none⟩,1,1⟩,rfl,?_,e2.trans (a6.ch _)⟩⟩
  rw[keysOf,if_pos h]
  exact(OwS.new (sz:=2) (n:=1) (cs:=keyC x.2.2.2.2.1) a6 rfl).rd
 have rest:¬(x.1=1\/x.1=2\/x.1=3)->F300k1 x.1 w2 b1 (fun(v:Value) w'=>∃t',v=slV t'/\Rd w' t' 2 ((keysOf x).flatMap keyC)/\Ext w w'):=fun h=>by
  refine IfB.intro (fun h4=>?_) fun h4=>⟨⟨none,0,0⟩,rfl,?_,e2⟩
  ·have h4:x.1=4:=by simpa using h4
   refine⟨x.2.2.2.2.1,qK,x.2.2.2.2.2.1,qL,by decide,fun b5 w6 a6=>⟨⟨some ⟨b5,0,none⟩,2,2⟩,rfl,?_,e2.trans (a6.ch _)⟩⟩
   rw[keysOf,if_neg h,if_pos h4]
   exact(OwS.new (sz:=2) (n:=2) (cs:=keyC x.2.2.2.2.1++keyC x.2.2.2.2.2.1) a6 rfl).rd
  ·have h4:¬x.1=4:=by simpa using h4
   rw[keysOf,if_neg h,if_neg h4]
   exact⟨rfl,rfl⟩
 refine⟨_,q0,IfB.intro (fun h1=>?_) fun h1=>IfB.intro (fun h2=>?_) fun h2=>IfB.intro (fun h3=>?_) fun h3=>?_⟩
 ·exact IfB.yes h1 (one (.inl (by simpa using h1)))
 ·exact IfB.yes h2 (one (.inr (.inl (by simpa using h2))))
 ·exact one (.inr (.inr (by simpa using h3)))
 ·have h1:¬x.1=1:=by simpa using h1
  have h2:¬x.1=2:=by simpa using h2
  have h3:¬x.1=3:=by simpa using h3
  exact rest (by omega)
theorem keyC_len(x:KeyD):(keyC x).length=2:=rfl
theorem c308{w:World}{t:Sl}{xs:List KeyD}{t1:Nat×Array Value}{q:KeyD->Bool}(h:Rd w t 2 (xs.flatMap keyC))(hl:xs.length<=1000000)
  (hq:∀(x:KeyD)(W:World),x∈xs->Ext w W->∀R':RV,(∀w',Ext W w'->R' (.bool (q x)) w')->Cx t1.1 { toList:=keyV x::t1.2.toList } W R'):
  Cw 308 #[slV t,.func (.func t1.1) #[] t1.2] w fun v w'=>v=iv (idxV (xs.findIdx? q))/\Ext w w':=by
 refine F308_ok t t1 w _ ?_
 have hn:=rdN keyC_len (by omega) h
 have e:∀R,F308 t t1 w R=IndexF Tryz.prog (fun W b o i (x:KeyD)=>CellsAt W b (o+i*2) (keyC x)) keyV t t1 w R:=fun _=>rfl
 rw[e]
 refine IndexF_of xs id q hn (by omega) (fun i x W hx e=>?_) (fun i x W hx e R' hR=>hq x W (List.mem_of_getElem? hx) e R' hR) fun w' e=>⟨rfl,e⟩
 obtain⟨hi,_⟩:=List.getElem?_eq_some_iff.1 hx
 exact(h.ext e).elem (i:=i) (by omega) (by omega) (flatGet keyC_len hx)
theorem c299{w:World}{t:Sl}{xs:List KeyD}{t1:Nat×Array Value}{q:KeyD->Bool}(h:Rd w t 2 (xs.flatMap keyC))(hl:xs.length<=1000000)
  (hq:∀(x:KeyD)(W:World),x∈xs->Ext w W->∀R':RV,(∀w',Ext W w'->R' (.bool (q x)) w')->Cx t1.1 { toList:=keyV x::t1.2.toList } W R'):
  Cw 299 #[slV t,.func (.func t1.1) #[] t1.2] w fun v w'=>v=.bool (xs.any q)/\Ext w w':=
 F299_ok t t1 w _ ((c308 h hl hq).use fun v w' ⟨hv,e⟩=>⟨_,hv,by rw[any_idx],e⟩)
theorem c295{w:World}{t:Sl}{xs:List InsD}{t1:Nat×Array Value}{q:InsD->Bool}(h:Rd w t 9 (xs.flatMap insC))(hl:xs.length<=1000000)
  (hq:∀(x:InsD)(W:World),x∈xs->Ext w W->∀R':RV,(∀w',Ext W w'->R' (.bool (q x)) w')->Cx t1.1 { toList:=insV x::t1.2.toList } W R'):
  Cw 295 #[slV t,.func (.func t1.1) #[] t1.2] w fun v w'=>v=iv (idxV (xs.findIdx? q))/\Ext w w':=by
 refine F295_ok t t1 w _ ?_
 have hn:=rdN insC_len (by omega) h
 have e:∀R,F295 t t1 w R=IndexF Tryz.prog (fun W b o i (x:InsX)=>CellsAt W b (o+i*9) (lC95 x)) (fun x:InsX=>.agg (lC95 x).toArray) t t1 w R:=fun _=>rfl
 rw[e]
 refine IndexF_of xs insX q hn (by omega) (fun i x W hx e=>?_) (fun i x W hx e R' hR=>hq x W (List.mem_of_getElem? hx) e R' hR) fun w' e=>⟨rfl,e⟩
 obtain⟨hi,_⟩:=List.getElem?_eq_some_iff.1 hx
 exact(h.ext e).elem (i:=i) (by omega) (by omega) (flatGet insC_len hx)
theorem c271{w:World}{t:Sl}{xs:List InsD}{t1:Nat×Array Value}{q:InsD->Bool}(h:Rd w t 9 (xs.flatMap insC))(hl:xs.length<=1000000)
  (hq:∀(x:InsD)(W:World),x∈xs->Ext w W->∀R':RV,(∀w',Ext W w'->R' (.bool (q x)) w')->Cx t1.1 { toList:=insV x::t1.2.toList } W R'):
  Cw 271 #[slV t,.func (.func t1.1) #[] t1.2] w fun v w'=>v=.bool (xs.any q)/\Ext w w':=
 F271_ok t t1 w _ ((c295 h hl hq).use fun v w' ⟨hv,e⟩=>⟨_,hv,by rw[any_idx],e⟩)
theorem c297(k:KeyD){b:Nat}{n:Int}{w:World}(hb:∃T,w.heap[b]? =some (.cells #[iv n] T (0,0))):
  Cw 297 #[keyV k,.pointer (some ⟨b,0,none⟩)] w fun v w'=>v=.bool (bq (¬KeyOk k n))/\Ext w w':=by
 obtain⟨T,hb⟩:=hb
 refine F297_ok k b w _ fun b1 w2 a2=>⟨k,boxAll (cs:=keyC k) a2.new (Ch.refl _ _),n,by rw[cell_of (a2.at hb)];rfl,(c286 k n w2).use ?_⟩
 rintro _ w6 ⟨r,rfl,hr,e6⟩
 exact⟨r,rfl,by rw[bq_neg hr],Ch.trans (a2.ch _) e6⟩
theorem c273(x:InsD)(n:Int)(w:World):Cw 273 #[insV x,iv n] w fun v w'=>∃r,v=.bool r/\(r=true↔InsOk x n)/\Ext w w':=by
 refine F273_ok (insX x) n w _ fun b1 w2 a2 b3 w4 a4=>⟨insX x,boxAll (cs:=insC x) (a4.at a2.new) (Ch.refl _ _),(c296 x w4).use ?_⟩
 have e4:Ext w w4:=(a2.ch _).trans (a4.ch _)
 rintro _ w7 ⟨rfl,e7⟩
 refine⟨onlyF x,rfl,fun b9 w10 a10=>⟨rfl,store_all (vs:=lC95 (onlyF x).1) a10.new rfl (lC_one _) fun w11 u11=>?_⟩⟩
 have e711:Ext w7 w11:=Ch.chN (a10.ch _) u11.ch fun j e=>by have:=a10.here;omega
 have e11:=(e4.trans e7).trans e711
 have x411:Ext w4 w11:=e7.trans e711
 have B1:=x411.at (a4.at a2.new)
 have B3:=x411.at a4.new
 have no:¬InsOk x n->∃r,Value.bool false=.bool r/\(r=true↔InsOk x n)/\Ext w w11:=fun h=>⟨false,rfl,⟨fun h=>(by cases h),fun h'=>absurd h' h⟩,e11⟩
 refine IfB.intro (fun h1=>?_) fun h1=>no fun h=>?_
 ·have q:=fun{W:World} (o:Nat) (e:Ext w11 W)=>boxAt (cs:=insC x) B1 o e
  have r:=Ch.refl (fun _=>False) w11
  refine⟨insX x,boxAll (cs:=insC x) B1 r,(onlyF x).1,boxAll (cs:=lC95 (onlyF x).1) u11.new r,_,eqIns _ _,IfB.intro (fun h2=>?_) fun h2=>no fun h=>?_⟩
  ·have h2:=(eqI_iff _ _).1 h2
   refine⟨_,q 1 r,(c298 x.2.1 w11).use ?_⟩
   rintro _ _ ⟨rfl,rfl⟩
   refine⟨_,rfl,IfB.dec (fun h3=>?_) fun h3=>no fun h=>h3 ((insOk_iff x n).1 h).2.2.1⟩
   refine⟨_,q 2 r,(c298 x.2.2.1 w11).use ?_⟩
   rintro _ _ ⟨rfl,rfl⟩
   refine⟨_,rfl,IfB.dec (fun h4=>?_) fun h4=>no fun h=>h4 ((insOk_iff x n).1 h).2.2.2.1⟩
   refine⟨_,q 3 r,(c298 x.2.2.2.1 w11).use ?_⟩
   rintro _ _ ⟨rfl,rfl⟩
   refine⟨_,rfl,IfB.dec (fun h5=>?_) fun h5=>no fun h=>h5 ((insOk_iff x n).1 h).2.2.2.2.1⟩
   refine⟨insX x,boxAll (cs:=insC x) B1 r,(c300 x w11).use ?_⟩
   rintro _ w29 ⟨s30,rfl,hr30,e29⟩
   refine⟨s30,rfl,(c299 (t1:=(297,#[.pointer (some ⟨b3,0,none⟩)])) (q:=fun k=>bq (¬KeyOk k n)) hr30 (Nat.le_trans (keysOf_len x) (by decide)) fun k W _ e R' hR=>(c297 k ⟨_,Ext.at (e29.trans e) B3⟩).use fun v w' ⟨hv,e'⟩=>hv ▸ hR w' e').use ?_⟩
   rintro _ w32 ⟨rfl,e32⟩
   refine⟨_,rfl,_,rfl,?_,(e11.trans e29).trans e32⟩
   rw[Bool.not_eq_true',any_bq,insOk_iff]
   exact⟨fun h=>⟨h1,h2,h3,h4,h5,h⟩,fun h=>h.2.2.2.2.2⟩
  ·have h:=(eqI_iff _ _).2 ((insOk_iff x n).1 h).2.1
   rw[h2] at h;cases h
 ·have h:=((insOk_iff x n).1 h).1
  have h1:(onlyF x).2=false:=h1
  rw[h1] at h;cases h
theorem c272(x:InsD){b:Nat}{n:Int}{w:World}(hb:∃T,w.heap[b]? =some (.cells #[iv n] T (0,0))):
  Cw 272 #[insV x,.pointer (some ⟨b,0,none⟩)] w fun v w'=>v=.bool (bq (¬InsOk x n))/\Ext w w':=by
 obtain⟨T,hb⟩:=hb
 refine F272_ok (insX x) b w _ fun b1 w2 a2=>⟨insX x,boxAll (cs:=insC x) a2.new (Ch.refl _ _),n,by rw[cell_of (a2.at hb)];rfl,(c273 x n w2).use ?_⟩
 rintro _ w6 ⟨r,rfl,hr,e6⟩
 exact⟨r,rfl,by rw[bq_neg hr],Ch.trans (a2.ch _) e6⟩
theorem c236{w:World}{t:Sl}{l:List InsD}(h:Rd w t 9 (l.flatMap insC))(n:Int):Cw 236 #[slV t,iv n] w fun v w'=>∃r,v=.bool r/\(r=true↔CodeOk l n)/\Ext w w':=by
 have hn:=rdN insC_len (by omega) h
 refine F236_ok t n w _ fun b1 w2 a2=>?_
 have e2:Ext w w2:=a2.ch _
 have no:¬CodeOk l n->∃r,Value.bool false=.bool r/\(r=true↔CodeOk l n)/\Ext w w2:=fun h=>⟨false,rfl,⟨fun h=>(by cases h),fun h'=>absurd h' h⟩,e2⟩
 have q:w2.cell? ⟨b1,0,none⟩=some (iv n):=by rw[cell_of a2.new];rfl
 refine⟨n,q,IfB.dec (fun h1=>no fun h=>by have:=h.n0;omega) fun h1=>⟨n,q,IfB.dec (fun h2=>no fun h=>by have:=h.n3;omega) fun h2=>IfB.dec (fun h3=>no fun h=>by have:=h.l1;omega) fun h3=>IfB.dec (fun h4=>no fun h=>by have:=h.l8;omega) fun h4=>?_⟩⟩
 refine(c271 (t1:=(272,#[.pointer (some ⟨b1,0,none⟩)])) (q:=fun x=>bq (¬InsOk x n)) (h.ext e2) (by omega) fun x W _ e R' hR=>(c272 x ⟨_,e.at a2.new⟩).use fun v w' ⟨hv,e'⟩=>hv ▸ hR w' e').use ?_
 rintro _ w6 ⟨rfl,e6⟩
 refine⟨_,rfl,_,rfl,?_,e2.trans e6⟩
 rw[Bool.not_eq_true',any_bq]
 exact⟨fun h=>⟨by omega,by omega,by omega,by omega,h⟩,fun h=>h.all⟩
theorem c302(x:InsD)(w:World):Cw 302 #[insV x] w fun v w'=>v=.bool (bq (¬(x.1≠6/\x.1≠7/\x.1≠8)))/\Ext w w':=by
 refine F302_ok (insX x) w _ fun b1 w2 a2=>?_
 have q:=boxAt (cs:=insC x) a2.new 0 (Ch.refl _ _)
 have e2:Ext w w2:=a2.ch _
 refine⟨_,q,IfB.intro (fun h1=>⟨?_,e2⟩) fun h1=>⟨_,q,IfB.intro (fun h2=>⟨?_,e2⟩) fun h2=>⟨_,q,?_,e2⟩⟩⟩
 ·have h1:x.1=6:=by simpa using h1
  rw[bq_iff.2 (by omega)]
 ·have h2:x.1=7:=by simpa using h2
  rw[bq_iff.2 (by omega)]
 ·have h1:¬x.1=6:=by simpa using h1
  have h2:¬x.1=7:=by simpa using h2
  congr 1
  rw[Bool.eq_iff_iff,bq_iff,beq_iff_eq]
  omega
theorem c277{w:World}{t:Sl}{l:List InsD}(h:Rd w t 9 (l.flatMap insC))(hl:l.length<=1000000):Cw 277 #[slV t] w fun v w'=>∃r,v=.bool r/\(r=true↔∀x∈l,x.1≠6/\x.1≠7/\x.1≠8)/\Ext w w':=by
 refine F277_ok t w _ ((c271 (t1:=(302,#[])) (q:=fun x=>bq (¬(x.1≠6/\x.1≠7/\x.1≠8))) h hl fun x W _ e R' hR=>(c302 x W).use fun v w' ⟨hv,e'⟩=>hv ▸ hR w' e').use ?_)
 rintro _ w6 ⟨rfl,e6⟩
 refine⟨_,rfl,_,rfl,?_,e6⟩
 rw[Bool.not_eq_true',any_bq]
noncomputable def R138_0:Code:=codeAt [1,0,1,0] (bodyOf Tryz.f138)
def R138_0a:An:=.nil
theorem R138_0ok1:okC tb Tryz.f138.ntmps (rA R138_0) .nil=true:=by kernel_rfl
theorem R138_0ok2:okC tb Tryz.f138.ntmps (rB R138_0) R138_0a=true:=by kernel_rfl
theorem R138_0okp:(rP R138_0).toList.all (fun p=>Nat.blt p Tryz.f138.ntmps)=true:=by kernel_rfl
theorem F138_ok(t0:Sl)(t1:Sl)(w:World)(R:RV)(h:AllocP w (Obj.cells #[Value.bool false] 4) fun b1 w2=>1*1<=16777216/\AllocP w2 (Obj.cells #[Qy t0] 51) fun b3 w4=>Qu' 189 #[Value.slice (some ⟨b3,0,none⟩) 1 1] w4 fun s7 w6=>1*1<=16777216/\AllocP w6 (Obj.cells #[Qy t1] 51) fun b8 w9=>Qu' 189 #[Value.slice (some ⟨b8,0,none⟩) 1 1] w9 fun s12 w11=>Cx 188 #[Qy s7,Qy s12] w11 fun v13 w14=>∃(x15:Nat×Array Value),v13=Value.func (Fn.func x15.1) #[] x15.2/\∀(y16:Nat->Value),RangeP Tryz.prog tb (nat_lit 13) none R138_0a (rG R138_0) (rP R138_0) (rA R138_0) (rB R138_0) (frC y16 [(4,Value.pointer (some ⟨b1,0,none⟩)),(11,Value.func (Fn.func x15.1) #[] x15.2)]) [] w14 (fun(l17:List Nat) (w18:World)=>#[Value.bool false].size=1/\StoreP w18 b1 0 [Value.bool false] fun w19=>marksP w19 l17 fun w20=>Qb w20 b1 0 fun t21=>R (Value.bool t21) w20) (fun(l22:List Nat) (w23:World)=>marksP w23 l22 fun w24=>Qb w24 b1 0 fun t25=>R (Value.bool t25) w24) fun(b26:Nat) (l27:List Nat) (w28:World)=>match b26.beq 0 with|true=>#[Value.bool false].size=1/\StoreP w28 b1 0 [Value.bool false] fun w30=>marksP w30 l27 fun w31=>Qb w31 b1 0 fun t32=>R (Value.bool t32) w31|false=>False):Cw 138 #[Qy t0,Qy t1] w R:=
 ckF Tryz.func138 (nd (.node (nd (.rng [(4,.one (.box)),(11,.one (.clo))] .nil)) .nil)) h (by kernel_rfl) (by kernel_rfl)
theorem F138b0_ok(t4:Nat)(t11:Nat×Array Value)(x12:Value)(l D n₀:Nat)(Jn:World->Prop)(Jx:Code->World->Prop)(W:World){g:Nat->Value}(h:([]:List Nat)=[]/\(W.1[l]? =W.1[l]? /\W.1[D]? =W.1[D]?)/\∀(w9:World),Stb n₀ W w9->Its W w9->(∃y12:Loop,w9.1[l]? =some (Obj.loop y12))->#[Value.bool true].size=1/\StoreP w9 t4 0 [Value.bool true] fun w16=>(w16.1[l]? =w9.1[l]? /\w16.1[D]? =w9.1[D]?)/\Jx Code.ret w16):
  BodyP Tryz.prog tb Tryz.f138.ntmps l D n₀ R138_0a (rP R138_0) (rA R138_0) (rB R138_0) (frC g [(4,Value.pointer (some ⟨t4,0,none⟩)),(11,Value.func (Fn.func t11.1) #[] t11.2)]) Jn Jx [x12] W:=
 Eq.mp (by kernel_rfl) h
theorem F188_ok(t0:Sl)(t1:Sl)(w:World)(R:RV)(h:AllocP w (Obj.cells #[Qy t0] 51) fun b1 w2=>AllocP w2 (Obj.cells #[Qy t1] 51) fun b3 w4=>R (Value.func (Fn.func 229) #[] #[Value.pointer (some ⟨b1,0,none⟩),Value.pointer (some ⟨b3,0,none⟩)]) w4):Cw 188 #[Qy t0,Qy t1] w R:=
 ckF Tryz.func188 .nil h (by kernel_rfl) (by kernel_rfl)
def F229j2(t0:Nat)(R:RV)(y2:Nat->Int->World->Prop)(b4:Nat)(n5:Int)(b12:Nat)(s15:Sl)(y16:Nat->Int->World->Prop)(b18:Nat)(n19:Int)(w20:World):Prop:=IfB (decide (n19<(s15.n:Int))) (Qx s15.1 n19 (s15.2:Int) fun b23 b24=>∃(x25:Int×Int),CellsAt w20 b23 (b24+n19.toNat*2) [Qz x25.1,Qz x25.2]/\AllocP w20 (Obj.cells #[Qz 0,Qz 0] 101) fun b26 w27=>#[Qz x25.1,Qz x25.2].size=2/\StoreP w27 b26 0 [Qz x25.1,Qz x25.2] fun w28=>Qi w28 b12 (0+0) fun n29=>Qi w28 b26 (0+0) fun n30=>Qi w28 b12 (0+1) fun n31=>Qi w28 b26 (0+1) fun n32=>AllocP w28 (Obj.cells #[Qz 0,Qz 0] 101) fun b33 w34=>#[Qz (if n29<n30 then n30 else n29),Qz (if n32<n31 then n32 else n31)].size=2/\StoreP w34 b33 0 [Qz (if n29<n30 then n30 else n29),Qz (if n32<n31 then n32 else n31)] fun w35=>Qi w35 b33 (0+0) fun n36=>Qi w35 b33 (0+1) fun n37=>IfB (decide (n36<=n37)) (∃(x38:Int×Int),CellsAt w35 b33 0 [Qz x38.1,Qz x38.2]/\YW Tryz.prog t0 #[Value.agg #[Qz x38.1,Qz x38.2]] w35 fun(t39:Bool) (w40:World)=>IfB (!t39) (R (Value.tuple #[]) w40) (Qn y16 b18 (IntKind.i64.wrap (n19+1)) w40)) (Qn y16 b18 (IntKind.i64.wrap (n19+1)) w35)) (Qn y2 b4 (IntKind.i64.wrap (n5+1)) w20)
def F229j1(t0:Nat)(t2:Nat)(R:RV)(s1:Sl)(y2:Nat->Int->World->Prop)(b4:Nat)(n5:Int)(w6:World):Prop:=IfB (decide (n5<(s1.n:Int))) (Qx s1.1 n5 (s1.2:Int) fun b9 b10=>∃(x11:Int×Int),CellsAt w6 b9 (b10+n5.toNat*2) [Qz x11.1,Qz x11.2]/\AllocP w6 (Obj.cells #[Qz 0,Qz 0] 101) fun b12 w13=>#[Qz x11.1,Qz x11.2].size=2/\StoreP w13 b12 0 [Qz x11.1,Qz x11.2] fun w14=>∃s15:Sl,w14.cell? ⟨t2,0,none⟩=some (Qy s15)/\Ql (α:=Int) 0 w14 fun y16 b18 n19 w20=>(F229j2 t0 R y2 b4 n5 b12 s15 y16 b18 n19 w20)) (R (Value.tuple #[]) w6)
theorem F229_ok(t0:Nat)(t1:Nat)(t2:Nat)(w:World)(R:RV)(h:∃s1:Sl,w.cell? ⟨t1,0,none⟩=some (Qy s1)/\Ql (α:=Int) 0 w fun y2 b4 n5 w6=>(F229j1 t0 t2 R s1 y2 b4 n5 w6)):Cw 229 #[Value.func (Fn.yield t0) #[] #[],Value.pointer (some ⟨t1,0,none⟩),Value.pointer (some ⟨t2,0,none⟩)] w R:=
 ckF Tryz.func229 (nd (.loop [(11,oi)] (rg [5,5,7,8,11,44]) (nd (nd (.node (nd (nd (.loop [(17,oi)] (rg [7,8,17,43]) .nil))) .nil))))) h (by kernel_rfl) (by kernel_rfl)
def F189k1(w22:World)(b20:Nat)(x13:Sl×Int)(b12:Nat)(y10:Nat->Sl×Int->World->Prop):Prop:=∃(x42:Int×Int),CellsAt w22.drew b20 0 [Qz x42.1,Qz x42.2]/\1*2<=16777216/\AllocP w22.drew (Obj.cells #[Qz x42.1,Qz x42.2] 101) fun b43 w44=>∃(l45:List Value),ReadC w44 (some ⟨b43,0,none⟩) (1*2) l45/\AppendP tt101 101 w44 x13.fst.1 x13.fst.2 x13.fst.3 1 l45 fun s46 w47=>Qn y10 b12 ({ p:=s46.1,n:=s46.2,c:=s46.3 },IntKind.i64.wrap (x13.2+1)) w47
def F189j1(R:RV)(s6:Sl)(y10:Nat->Sl×Int->World->Prop)(b12:Nat)(x13:Sl×Int)(w14:World):Prop:=IfB (decide (x13.snd<(s6.n:Int))) (Qx s6.1 x13.2 (s6.2:Int) fun b17 b18=>∃(x19:Int×Int),CellsAt w14 b17 (b18+x13.2.toNat*2) [Qz x19.1,Qz x19.2]/\AllocP w14 (Obj.cells #[Qz 0,Qz 0] 101) fun b20 w21=>#[Qz x19.1,Qz x19.2].size=2/\StoreP w21 b20 0 [Qz x19.1,Qz x19.2] fun w22=>IfB (decide (0<(x13.fst.n:Int))) (Qi w22.drew b20 (0+0) fun n23=>Qx x13.fst.1 (IntKind.i64.wrap ((x13.fst.2:Int)-1)) (x13.fst.2:Int) fun b24 b25=>Qi w22.drew b24 (b25+(IntKind.i64.wrap ((x13.fst.2:Int)-1)).toNat*2+1) fun n26=>IfB (decide (n23<=IntKind.i64.wrap (n26+1))) (Qx x13.fst.1 (IntKind.i64.wrap ((x13.fst.2:Int)-1)) (x13.fst.2:Int) fun b27 b28=>∃n29:Int,w22.drew.drew.cell? ⟨b27,b28+(IntKind.i64.wrap ((x13.fst.2:Int)-1)).toNat*2+1,none⟩=some (Qz n29)/\∃n30:Int,w22.drew.drew.cell? ⟨b20,0+1,none⟩=some (Qz n30)/\Qx x13.fst.1 (IntKind.i64.wrap ((x13.fst.2:Int)-1)) (x13.fst.2:Int) fun b31 b32=>#[Qz (if n29<n30 then n30 else n29)].size=1/\StoreP w22.drew.drew b31 (b32+(IntKind.i64.wrap ((x13.fst.2:Int)-1)).toNat*2+1) [Qz (if n29<n30 then n30 else n29)] fun w33=>Qn y10 b12 ({ p:=x13.fst.1,n:=x13.fst.2,c:=x13.fst.3 },IntKind.i64.wrap (x13.2+1)) w33) (F189k1 w22 b20 x13 b12 y10)) (F189k1 w22 b20 x13 b12 y10)) (R (Qy x13.fst) w14)
theorem F189_ok(t0:Sl)(w:World)(R:RV)(h:Cx 231 #[Qy t0] w fun v1 w2=>∃s3:Sl,v1=Qy s3/\Qu' 230 #[Qy s3,Value.func (Fn.func 232) #[] #[]] w2 fun s6 w5=>Cx 233 #[Qy s6,Value.func (Fn.func 234) #[] #[]] w5 fun v7 w8=>∃y9:Unit,v7=Value.tuple #[]/\Ql (α:=Sl×Int) ({ p:=none,n:=0,c:=0 },0) w8 fun y10 b12 x13 w14=>(F189j1 R s6 y10 b12 x13 w14)):Cw 189 #[Qy t0] w R:=
 ckF Tryz.func189 (nd (nd (nd (nd (.node (nd (.loop [(4,.one (.sl)),(15,oi)] (rg [4,4,6,7,15,53]) (nd (nd (.node (nd (nd (.node (.node (.draw (sts [0,1,2,3,4,5,6,7,8,9,10,11,12,13] .fin)) (.node (.node (.draw (sts [0,1,2,3,4,5,6,7,8,9,10,11,12,13] (.ac 14 [] .fin .non))) .nil) .nil)) .nil))) .nil))))) .nil))))) h (by kernel_rfl) (by kernel_rfl)
theorem F232_ok(t0:Int×Int)(w:World)(R:RV)(h:AllocP w (Obj.cells #[Qz t0.1,Qz t0.2] 101) fun b1 w2=>∃(x3:Int×Int),CellsAt w2 b1 0 [Qz x3.1,Qz x3.2]/\Qv' 201 #[Value.agg #[Qz x3.1,Qz x3.2]] w2 fun t6 w5=>R (Value.bool !t6) w5):Cw 232 #[Value.agg #[Qz t0.1,Qz t0.2]] w R:=
 ckF Tryz.func232 .nil h (by kernel_rfl) (by kernel_rfl)
theorem F234_ok(t0:Int×Int)(t1:Int×Int)(w:World)(R:RV)(h:AllocP w (Obj.cells #[Qz t0.1,Qz t0.2] 101) fun b1 w2=>AllocP w2 (Obj.cells #[Qz t1.1,Qz t1.2] 101) fun b3 w4=>Qi w4 b1 (0+0) fun n5=>Qi w4 b3 (0+0) fun n6=>Qw' 158 #[Qz n5,Qz n6] w4 fun n9 w8=>R (Qz n9) w8):Cw 234 #[Value.agg #[Qz t0.1,Qz t0.2],Value.agg #[Qz t1.1,Qz t1.2]] w R:=
 ckF Tryz.func234 .nil h (by kernel_rfl) (by kernel_rfl)
theorem F201_ok(t0:Int×Int)(w:World)(R:RV)(h:AllocP w (Obj.cells #[Qz t0.1,Qz t0.2] 101) fun b1 w2=>Qi w2 b1 (0+0) fun n3=>IfB (decide (0<=n3)) (Qi w2 b1 (0+0) fun n4=>Qi w2 b1 (0+1) fun n5=>IfB (decide (n4<=n5)) (Qi w2 b1 (0+1) fun n6=>R (Value.bool (decide (n6<=999))) w2) (R (Value.bool false) w2)) (R (Value.bool false) w2)):Cw 201 #[Value.agg #[Qz t0.1,Qz t0.2]] w R:=
 ckF Tryz.func201 .nil h (by kernel_rfl) (by kernel_rfl)
def F231j2(t0:Sl)(R:RV)(y15:Nat->Sl×Int->World->Prop)(b17:Nat)(x18:Sl×Int)(w19:World):Prop:=IfB (decide (x18.snd<(t0.n:Int))) (Qx t0.1 x18.2 (t0.2:Int) fun b22 b23=>Qs w19 b22 (b23+x18.2.toNat) fun s24=>∃(l25:List Value),ReadC w19 s24.1 (s24.2*2) l25/\AppendP tt101 101 w19 x18.fst.1 x18.fst.2 x18.fst.3 s24.2 l25 fun s26 w27=>Qn y15 b17 ({ p:=s26.1,n:=s26.2,c:=s26.3 },IntKind.i64.wrap (x18.2+1)) w27) (R (Qy x18.fst) w19)
def F231j1(t0:Sl)(R:RV)(y1:Nat->Int×Int->World->Prop)(b3:Nat)(x4:Int×Int)(w5:World):Prop:=IfB (decide (x4.snd<(t0.n:Int))) (Qx t0.1 x4.2 (t0.2:Int) fun b8 b9=>Qs w5 b8 (b9+x4.2.toNat) fun s10=>IfB (decide (IntKind.i64.wrap (x4.fst+(s10.n:Int))<0)) False (Qn y1 b3 (IntKind.i64.wrap (x4.1+(s10.2:Int)),IntKind.i64.wrap (x4.2+1)) w5)) (Qu' 268 #[Value.slice none 0 0,Qz x4.1] w5 fun s14 w13=>Ql (α:=Sl×Int) ({ p:=s14.1,n:=s14.2,c:=s14.3 },0) w13 fun y15 b17 x18 w19=>(F231j2 t0 R y15 b17 x18 w19))
theorem F231_ok(t0:Sl)(w:World)(R:RV)(h:Ql (α:=Int×Int) (0,0) w fun y1 b3 x4 w5=>(F231j1 t0 R y1 b3 x4 w5)):Cw 231 #[Qy t0] w R:=
 ckF Tryz.func231 (nd (nd (.node (nd (.loop [(3,oi),(11,oi)] (rg [3,3,5,5,11,22]) .nil)) (nd (.node (nd (.loop [(6,.one (.sl)),(27,oi)] (rg [6,6,8,8,27,34]) .nil)) .nil))))) h (by kernel_rfl) (by kernel_rfl)
def F230j1(t0:Sl)(t1:Nat×Array Value)(R:RV)(y4:Nat->Int×Int->World->Prop)(b6:Nat)(x7:Int×Int)(w8:World):Prop:=IfB (decide (x7.snd<(t0.n:Int))) (Qx t0.1 x7.2 (t0.2:Int) fun b11 b12=>∃(x13:Int×Int),CellsAt w8 b11 (b12+x7.2.toNat*2) [Qz x13.1,Qz x13.2]/\AllocP w8 (Obj.cells #[Qz 0,Qz 0] 101) fun b14 w15=>#[Qz x13.1,Qz x13.2].size=2/\StoreP w15 b14 0 [Qz x13.1,Qz x13.2] fun w16=>∃(x17:Int×Int),CellsAt w16 b14 0 [Qz x17.1,Qz x17.2]/\Cx t1.1 { toList:=Value.agg #[Qz x17.1,Qz x17.2]::t1.snd.1 } w16 fun v18 w19=>∃t20:Bool,v18=Value.bool t20/\IfB (!t20) (∃(x21:Int×Int),CellsAt w19 b14 0 [Qz x21.1,Qz x21.2]/\Qx t0.1 x7.1 (t0.2:Int) fun b22 b23=>#[Qz x21.1,Qz x21.2].size=2/\StoreP w19 b22 (b23+x7.1.toNat*2) [Qz x21.1,Qz x21.2] fun w24=>Qn y4 b6 (IntKind.i64.wrap (x7.1+1),IntKind.i64.wrap (x7.2+1)) w24) (Qn y4 b6 (x7.1,IntKind.i64.wrap (x7.2+1)) w19)) ((0<=x7.1/\x7.1<=(t0.2:Int))/\match slAddr t0.1 t0.3 x7.1.toNat 2 with|none=>(0<=x7.1/\x7.1<=(t0.3:Int))/\R (Value.slice (slAddr t0.1 t0.3 0 2) x7.1.toNat t0.3) w8|some ({ block:=b28,off:=b29,spot:=none }:Addr)=>StoreP w8 b28 b29 (zc #[Qz 0,Qz 0] (t0.2-x7.1.toNat)) fun w30=>(0<=x7.1/\x7.1<=(t0.3:Int))/\R (Value.slice (slAddr t0.1 t0.3 0 2) x7.1.toNat t0.3) w30|some y31=>False)
theorem F230_ok(t0:Sl)(t1:Nat×Array Value)(w:World)(R:RV)(h:Cx 241 #[Qy t0,Value.func (Fn.func t1.1) #[] t1.2] w fun v1 w2=>∃n3:Int,v1=Qz n3/\IfB (n3 == (-1:Int)) (R (Qy t0) w2) (Ql (α:=Int×Int) (n3,IntKind.i64.wrap (n3+1)) w2 fun y4 b6 x7 w8=>(F230j1 t0 t1 R y4 b6 x7 w8))):Cw 230 #[Qy t0,Value.func (Fn.func t1.1) #[] t1.2] w R:=
 ckF Tryz.func230 (nd (nd (nd (.node (nd (.loop [(5,oi),(6,oi)] (rg [5,7,16,35]) .nil)) .nil)))) h (by kernel_rfl) (by kernel_rfl)
def F241j1(t0:Sl)(t1:Nat×Array Value)(R:RV)(y1:Nat->Int->World->Prop)(b3:Nat)(n4:Int)(w5:World):Prop:=IfB (decide (n4<(t0.n:Int))) (Qx t0.1 n4 (t0.2:Int) fun b8 b9=>∃(x10:Int×Int),CellsAt w5 b8 (b9+n4.toNat*2) [Qz x10.1,Qz x10.2]/\Cx t1.1 { toList:=Value.agg #[Qz x10.1,Qz x10.2]::t1.snd.1 } w5 fun v11 w12=>∃t13:Bool,v11=Value.bool t13/\IfB t13 (R (Qz n4) w12) (Qn y1 b3 (IntKind.i64.wrap (n4+1)) w12)) (R (Qz (-1:Int)) w5)
def F241(t0:Sl)(t1:Nat×Array Value)(w:World)(R:RV):Prop:=Ql (α:=Int) 0 w fun y1 b3 n4 w5=>(F241j1 t0 t1 R y1 b3 n4 w5)
theorem F241_ok(t0:Sl)(t1:Nat×Array Value)(w:World)(R:RV)(h:F241 t0 t1 w R):Cw 241 #[Qy t0,Value.func (Fn.func t1.1) #[] t1.2] w R:=
 ckF Tryz.func241 (nd (.node (nd (.loop [(8,oi)] (rg [4,5,8,18]) .nil)) .nil)) h (by kernel_rfl) (by kernel_rfl)
def F268(t0:Sl)(t1:Int)(w:World)(R:RV):Prop:=IfB (decide (t1<0)) False (IfB (decide (0<IntKind.i64.wrap (t1-IntKind.i64.wrap ((t0.c:Int)-(t0.n:Int))))) ((0<=(t0.3:Int)/\(t0.3:Int)<=(t0.3:Int))/\(0<=IntKind.i64.wrap (t1-IntKind.i64.wrap ((t0.3:Int)-(t0.2:Int)))/\IntKind.i64.wrap (t1-IntKind.i64.wrap ((t0.3:Int)-(t0.2:Int)))<=281474976710656/\IntKind.i64.wrap (t1-IntKind.i64.wrap ((t0.3:Int)-(t0.2:Int)))*((16:Nat):Int)<=281474976710656)/\AppendP tt101 101 w (slAddr t0.1 t0.3 0 2) ((t0.3:Int)).toNat t0.3 (IntKind.i64.wrap (t1-IntKind.i64.wrap ((t0.3:Int)-(t0.2:Int)))).toNat (zc #[Qz 0,Qz 0] (IntKind.i64.wrap (t1-IntKind.i64.wrap ((t0.3:Int)-(t0.2:Int)))).toNat) fun s1 w2=>(0<=(t0.2:Int)/\(t0.2:Int)<=(s1.3:Int))/\R (Value.slice (slAddr s1.1 s1.3 0 2) ((t0.2:Int)).toNat s1.3) w2) (R (Qy t0) w))
theorem F268_ok(t0:Sl)(t1:Int)(w:World)(R:RV)(h:F268 t0 t1 w R):Cw 268 #[Qy t0,Qz t1] w R:=
 ckF Tryz.func268 .nil h (by kernel_rfl) (by kernel_rfl)
theorem F158_ok(t0:Int)(t1:Int)(w:World)(R:RV)(h:Cx 214 #[Qz t0] w fun v1 w2=>∃t3:Bool,v1=Value.bool t3/\Qv' 214 #[Qz t1] w2 fun t6 w5=>IfB t3 (IfB t6 (R (Qz 0) w5) (R (Qz (-1:Int)) w5)) (IfB t6 (R (Qz 1) w5) (IfB (decide (t0<t1)) (R (Qz (-1:Int)) w5) (IfB (decide (t1<t0)) (R (Qz 1) w5) (R (Qz 0) w5))))):Cw 158 #[Qz t0,Qz t1] w R:=
 ckF Tryz.func158 .nil h (by kernel_rfl) (by kernel_rfl)
class SrtC (α:Type) where
 f:Nat->FuncId
 c:α->List Value
 z:Nat
 d:α
 key:α->Int
 Q:α->Prop
def G0(α:Type)[S:SrtC α](t0:Sl)(t1:Nat×Array Value)(w:World)(R:RV):Prop:=
 Cx 156 #[Value.int IntKind.u64 (IntKind.u64.wrap (t0.2:Int))] w fun(v1:Value) (w2:World)=>
 ∃n3:Int,
 v1=Value.int IntKind.i64 n3/\
 Cx (S.f 1)
 #[Value.slice t0.1 t0.2 t0.3,Value.int IntKind.i64 0,Value.int IntKind.i64 (t0.2:Int),Value.int IntKind.i64 n3,Value.func (Fn.func t1.1) #[] t1.2] w2
 fun(v4:Value) (w5:World)=>∃y6:Unit,v4=Value.tuple #[]/\R (Value.tuple #[]) w5
def G1k2(α:Type)[S:SrtC α](t0:Sl)(x4:Int×Int×Int×Bool×Bool)(x56:Int×Bool)(n18:Int)(t4:Nat×Array Value)(w55:World)(b3:Nat)(y1:Nat->Int×Int×Int×Bool×Bool->World->Prop):Prop:=
 Cx (S.f 1)
 #[Value.slice t0.1 t0.2 t0.3,Value.int IntKind.i64 x4.1,Value.int IntKind.i64 x56.1,Value.int IntKind.i64 n18,Value.func (Fn.func t4.1) #[] t4.2] w55
 fun(v57:Value) (w58:World)=>
 ∃y59:Unit,
 v57=Value.tuple #[]/\
 ([]:List Nat)=[]/\
 ∃b60:Nat,
 b60<b3/\
 y1 b60 (IntKind.i64.wrap (x56.1+1),x4.snd.1,n18,decide (IntKind.i64.wrap ((IntKind.i64.wrap (x4.snd.fst-x4.fst)).tdiv 8)<=IntKind.i64.wrap (x56.fst-x4.fst)),x56.2) w58
def G1k1(α:Type)[S:SrtC α](t0:Sl)(x56:Int×Bool)(x4:Int×Int×Int×Bool×Bool)(n18:Int)(t4:Nat×Array Value)(w55:World)(b3:Nat)(y1:Nat->Int×Int×Int×Bool×Bool->World->Prop):Prop:=
 Cx (S.f 1)
 #[Value.slice t0.1 t0.2 t0.3,Value.int IntKind.i64 (IntKind.i64.wrap (x56.1+1)),Value.int IntKind.i64 x4.snd.1,Value.int IntKind.i64 n18,Value.func (Fn.func t4.1) #[] t4.2]
 w55 fun(v61:Value) (w62:World)=>
 ∃y63:Unit,
 v61=Value.tuple #[]/\
 ([]:List Nat)=[]/\
 ∃b64:Nat,b64<b3/\y1 b64 (x4.1,x56.1,n18,decide (IntKind.i64.wrap ((IntKind.i64.wrap (x4.snd.fst-x4.fst)).tdiv 8)<=IntKind.i64.wrap (x4.snd.fst-x56.fst)),x56.2) w62
def G1j4(α:Type)[S:SrtC α](t0:Sl)(t4:Nat×Array Value)(y1:Nat->Int×Int×Int×Bool×Bool->World->Prop)(b3:Nat)(x4:Int×Int×Int×Bool×Bool)(n18:Int)(x29:Int×Int)(w38:World):Prop:=
 IfB (decide (0<x4.fst))
 (∃b41:Nat,
 ∃b42:Nat,
 t0.1=some ⟨b41,b42,none⟩/\
 (0<=IntKind.i64.wrap (x4.1-1)/\IntKind.i64.wrap (x4.1-1)<(t0.2:Int))/\
 ∃(x43:α),
 CellsAt w38.drew b41 (b42+(IntKind.i64.wrap (x4.1-1)).toNat*S.z) (S.c x43)/\
 ∃b44:Nat,
 ∃b45:Nat,
 t0.1=some ⟨b44,b45,none⟩/\
 (0<=x29.1/\x29.1<(t0.2:Int))/\
 ∃(x46:α),
 CellsAt w38.drew b44 (b45+x29.1.toNat*S.z) (S.c x46)/\
 Cx t4.1
 { toList:=(.agg (S.c x43).toArray)::(.agg (S.c x46).toArray)::t4.snd.1 }
 w38.drew fun(v47:Value) (w48:World)=>
 ∃n49:Int,
 v47=Value.int IntKind.i64 n49/\
 IfB (!decide (n49<0))
 (Cx (S.f 8)
 #[Value.slice t0.1 t0.2 t0.3,Value.int IntKind.i64 x4.1,Value.int IntKind.i64 x4.snd.1,Value.int IntKind.i64 x29.1,Value.func (Fn.func t4.1) #[] t4.2] w48
 fun(v50:Value) (w51:World)=>∃n52:Int,v50=Value.int IntKind.i64 n52/\([]:List Nat)=[]/\∃b53:Nat,b53<b3/\y1 b53 (n52,x4.snd.1,n18,x4.snd.snd.snd.1,x4.snd.snd.snd.2) w51)
 (Cx (S.f 9)
 #[Value.slice t0.1 t0.2 t0.3,Value.int IntKind.i64 x4.1,Value.int IntKind.i64 x4.snd.1,Value.int IntKind.i64 x29.1,Value.func (Fn.func t4.1) #[] t4.2] w48
 fun(v54:Value) (w55:World)=>
 ∃(x56:Int×Bool),
 v54=Value.tuple #[Value.int IntKind.i64 x56.1,Value.bool x56.2]/\
 ¬(8:Int)=0/\
 IfB (decide (IntKind.i64.wrap (x56.fst-x4.fst)<IntKind.i64.wrap (x4.snd.fst-x56.fst)))
 (G1k2 α t0 x4 x56 n18 t4 w55 b3 y1)
 (G1k1 α t0 x56 x4 n18 t4 w55 b3 y1)))
 (Cx (S.f 9)
 #[Value.slice t0.1 t0.2 t0.3,Value.int IntKind.i64 x4.1,Value.int IntKind.i64 x4.snd.1,Value.int IntKind.i64 x29.1,Value.func (Fn.func t4.1) #[] t4.2] w38.drew
 fun(v65:Value) (w66:World)=>
 ∃(x67:Int×Bool),
 v65=Value.tuple #[Value.int IntKind.i64 x67.1,Value.bool x67.2]/\
 ¬(8:Int)=0/\
 IfB (decide (IntKind.i64.wrap (x67.fst-x4.fst)<IntKind.i64.wrap (x4.snd.fst-x67.fst)))
 (G1k2 α t0 x4 x67 n18 t4 w66 b3 y1)
 (G1k1 α t0 x67 x4 n18 t4 w66 b3 y1))
def G1j3(α:Type)[S:SrtC α](t0:Sl)(t4:Nat×Array Value)(R:RV)(y1:Nat->Int×Int×Int×Bool×Bool->World->Prop)(b3:Nat)(x4:Int×Int×Int×Bool×Bool)(n18:Int)(x29:Int×Int)(w30:World):Prop:=
 ∃(y33:Unit->World->Prop),
 IfB x4.snd.snd.snd.1
 (IfB x4.snd.snd.snd.2
 (IfB (x29.2 == 1)
 (Cx (S.f 7) #[Value.slice t0.1 t0.2 t0.3,Value.int IntKind.i64 x4.1,Value.int IntKind.i64 x4.snd.1,Value.func (Fn.func t4.1) #[] t4.2] w30
 fun(v34:Value) (w35:World)=>∃t36:Bool,v34=Value.bool t36/\IfB t36 (R (Value.tuple #[]) w35) (([]:List Nat)=[]/\y33 PUnit.unit w35))
 (([]:List Nat)=[]/\y33 PUnit.unit w30))
 (([]:List Nat)=[]/\y33 PUnit.unit w30))
 (([]:List Nat)=[]/\y33 PUnit.unit w30)/\
 ∀(y37:Unit)(w38:World)(y39:Nat->Value),
 y33 y37 w38->
 (G1j4 α t0 t4 y1 b3 x4 n18 x29 w38)
def G1j2(α:Type)[S:SrtC α](t0:Sl)(t4:Nat×Array Value)(R:RV)(y1:Nat->Int×Int×Int×Bool×Bool->World->Prop)(b3:Nat)(x4:Int×Int×Int×Bool×Bool)(n18:Int)(w19:World):Prop:=
 Cx (S.f 5) #[Value.slice t0.1 t0.2 t0.3,Value.int IntKind.i64 x4.1,Value.int IntKind.i64 x4.snd.1,Value.func (Fn.func t4.1) #[] t4.2] w19
 fun(v22:Value) (w23:World)=>
 ∃(x24:Int×Int),
 v22=Value.tuple #[Value.int IntKind.i64 x24.1,Value.int IntKind.i64 x24.2]/\
 ∃(y25:Int×Int->World->Prop),
 IfB (x24.2 == 2)
 (Cx (S.f 6) #[Value.slice t0.1 t0.2 t0.3,Value.int IntKind.i64 x4.1,Value.int IntKind.i64 x4.snd.1,Value.func (Fn.func t4.1) #[] t4.2] w23
 fun(v26:Value) (w27:World)=>
 ∃y28:Unit,v26=Value.tuple #[]/\([]:List Nat)=[]/\y25 (IntKind.i64.wrap (IntKind.i64.wrap (x4.snd.1-1)-IntKind.i64.wrap (x24.1-x4.1)),1) w27)
 (([]:List Nat)=[]/\y25 (x24.1,x24.2) w23)/\
 ∀(x29:Int×Int)(w30:World)(y31:Nat->Value),
 y25 x29 w30->
 (G1j3 α t0 t4 R y1 b3 x4 n18 x29 w30)
def G1j1(α:Type)[S:SrtC α](t0:Sl)(t4:Nat×Array Value)(R:RV)(y1:Nat->Int×Int×Int×Bool×Bool->World->Prop)(b3:Nat)(x4:Int×Int×Int×Bool×Bool)(w5:World):Prop:=
 IfB (decide (IntKind.i64.wrap (x4.snd.fst-x4.fst)<=12))
 (Cx (S.f 2) #[Value.slice t0.1 t0.2 t0.3,Value.int IntKind.i64 x4.1,Value.int IntKind.i64 x4.snd.1,Value.func (Fn.func t4.1) #[] t4.2] w5
 fun(v8:Value) (w9:World)=>∃y10:Unit,v8=Value.tuple #[]/\R (Value.tuple #[]) w9)
 (IfB (x4.snd.snd.1 == 0)
 (Cx (S.f 3) #[Value.slice t0.1 t0.2 t0.3,Value.int IntKind.i64 x4.1,Value.int IntKind.i64 x4.snd.1,Value.func (Fn.func t4.1) #[] t4.2] w5
 fun(v11:Value) (w12:World)=>∃y13:Unit,v11=Value.tuple #[]/\R (Value.tuple #[]) w12)
 (∃(y14:Int->World->Prop),
 IfB (!x4.snd.snd.snd.1)
 (Cx (S.f 4) #[Value.slice t0.1 t0.2 t0.3,Value.int IntKind.i64 x4.1,Value.int IntKind.i64 x4.snd.1,Value.func (Fn.func t4.1) #[] t4.2] w5
 fun(v15:Value) (w16:World)=>∃y17:Unit,v15=Value.tuple #[]/\([]:List Nat)=[]/\y14 (IntKind.i64.wrap (x4.snd.snd.1-1)) w16)
 (([]:List Nat)=[]/\y14 x4.snd.snd.1 w5)/\
 ∀(n18:Int)(w19:World)(y20:Nat->Value),
 y14 n18 w19->
 (G1j2 α t0 t4 R y1 b3 x4 n18 w19)))
def G1(α:Type)[S:SrtC α](t0:Sl)(t1:Int)(t2:Int)(t3:Int)(t4:Nat×Array Value)(w:World)(R:RV):Prop:=
 ∃(y1:Nat->Int×Int×Int×Bool×Bool->World->Prop),
 (∃b2:Nat,y1 b2 (t1,t2,t3,true,true) w)/\
 ∀(b3:Nat)(x4:Int×Int×Int×Bool×Bool)(w5:World)(y6:Nat->Value),
 y1 b3 x4 w5->
 (G1j1 α t0 t4 R y1 b3 x4 w5)
def G2j2(α:Type)[S:SrtC α](t0:Sl)(t1:Int)(t3:Nat×Array Value)(y1:Nat->Int->World->Prop)(b3:Nat)(n4:Int)(y8:Nat->Int->World->Prop)(b10:Nat)(n11:Int)(w12:World):Prop:=
 IfB (decide (t1<n11))
 (∃b15:Nat,
 ∃b16:Nat,
 t0.1=some ⟨b15,b16,none⟩/\
 (0<=n11/\n11<(t0.2:Int))/\
 ∃(x17:α),
 CellsAt w12.drew b15 (b16+n11.toNat*S.z) (S.c x17)/\
 ∃b18:Nat,
 ∃b19:Nat,
 t0.1=some ⟨b18,b19,none⟩/\
 (0<=IntKind.i64.wrap (n11-1)/\IntKind.i64.wrap (n11-1)<(t0.2:Int))/\
 ∃(x20:α),
 CellsAt w12.drew b18 (b19+(IntKind.i64.wrap (n11-1)).toNat*S.z) (S.c x20)/\
 Cx t3.1
 { toList:=(.agg (S.c x17).toArray)::(.agg (S.c x20).toArray)::t3.snd.1 }
 w12.drew fun(v21:Value) (w22:World)=>
 ∃n23:Int,
 v21=Value.int IntKind.i64 n23/\
 IfB (decide (n23<0))
 (∃b24:Nat,
 ∃b25:Nat,
 t0.1=some ⟨b24,b25,none⟩/\
 (0<=IntKind.i64.wrap (n11-1)/\IntKind.i64.wrap (n11-1)<(t0.2:Int))/\
 ∃(x26:α),
 CellsAt w22.drew b24 (b25+(IntKind.i64.wrap (n11-1)).toNat*S.z) (S.c x26)/\
 ∃b27:Nat,
 ∃b28:Nat,
 t0.1=some ⟨b27,b28,none⟩/\
 (0<=n11/\n11<(t0.2:Int))/\
 ∃(x29:α),
 CellsAt w22.drew b27 (b28+n11.toNat*S.z) (S.c x29)/\
 ∃b30:Nat,
 ∃b31:Nat,
 t0.1=some ⟨b30,b31,none⟩/\
 (0<=n11/\n11<(t0.2:Int))/\
 (S.c x26).toArray.size=S.z/\
 StoreP w22.drew b30 (b31+n11.toNat*S.z) (S.c x26) fun(w32:World)=>
 ∃b33:Nat,
 ∃b34:Nat,
 t0.1=some ⟨b33,b34,none⟩/\
 (0<=IntKind.i64.wrap (n11-1)/\IntKind.i64.wrap (n11-1)<(t0.2:Int))/\
 (S.c x29).toArray.size=S.z/\
 StoreP w32 b33 (b34+(IntKind.i64.wrap (n11-1)).toNat*S.z) (S.c x29) fun(w35:World)=>
 ([]:List Nat)=[]/\∃b36:Nat,b36<b10/\y8 b36 (IntKind.i64.wrap (n11-1)) w35)
 (([]:List Nat)=[]/\∃b37:Nat,b37<b3/\y1 b37 (IntKind.i64.wrap (n4+1)) w22))
 (([]:List Nat)=[]/\∃b38:Nat,b38<b3/\y1 b38 (IntKind.i64.wrap (n4+1)) w12.drew)
def G2(α:Type)[S:SrtC α](t0:Sl)(t1:Int)(t2:Int)(t3:Nat×Array Value)(w:World)(R:RV):Prop:=
 ∃(y1:Nat->Int->World->Prop),
 (∃b2:Nat,y1 b2 (IntKind.i64.wrap (t1+1)) w)/\
 ∀(b3:Nat)(n4:Int)(w5:World)(y6:Nat->Value),
 y1 b3 n4 w5->
 IfB (decide (n4<t2))
 (∃(y8:Nat->Int->World->Prop),
 (∃b9:Nat,y8 b9 n4 w5)/\
 ∀(b10:Nat)(n11:Int)(w12:World)(y13:Nat->Value),
 y8 b10 n11 w12->
 (G2j2 α t0 t1 t3 y1 b3 n4 y8 b10 n11 w12))
 (R (Value.tuple #[]) w5)
def G3j2(α:Type)[S:SrtC α](t0:Sl)(t1:Int)(t3:Nat×Array Value)(R:RV)(y12:Nat->Int->World->Prop)(b14:Nat)(n15:Int)(w16:World):Prop:=
 IfB (decide (0<=n15))
 (∃b19:Nat,
 ∃b20:Nat,
 t0.1=some ⟨b19,b20,none⟩/\
 (0<=IntKind.i64.wrap (t1+n15)/\IntKind.i64.wrap (t1+n15)<(t0.2:Int))/\
 ∃(x21:α),
 CellsAt w16.drew b19 (b20+(IntKind.i64.wrap (t1+n15)).toNat*S.z) (S.c x21)/\
 ∃b22:Nat,
 ∃b23:Nat,
 t0.1=some ⟨b22,b23,none⟩/\
 (0<=t1/\t1<(t0.2:Int))/\
 ∃(x24:α),
 CellsAt w16.drew b22 (b23+t1.toNat*S.z) (S.c x24)/\
 ∃b25:Nat,
 ∃b26:Nat,
 t0.1=some ⟨b25,b26,none⟩/\
 (0<=t1/\t1<(t0.2:Int))/\
 (S.c x21).toArray.size=S.z/\
 StoreP w16.drew b25 (b26+t1.toNat*S.z) (S.c x21) fun(w27:World)=>
 ∃b28:Nat,
 ∃b29:Nat,
 t0.1=some ⟨b28,b29,none⟩/\
 (0<=IntKind.i64.wrap (t1+n15)/\IntKind.i64.wrap (t1+n15)<(t0.2:Int))/\
 (S.c x24).toArray.size=S.z/\
 StoreP w27 b28 (b29+(IntKind.i64.wrap (t1+n15)).toNat*S.z) (S.c x24) fun(w30:World)=>
 Cx (S.f 10)
 #[Value.slice t0.1 t0.2 t0.3,Value.int IntKind.i64 0,Value.int IntKind.i64 n15,Value.int IntKind.i64 t1,Value.func (Fn.func t3.1) #[] t3.2] w30
 fun(v31:Value) (w32:World)=>∃y33:Unit,v31=Value.tuple #[]/\([]:List Nat)=[]/\∃b34:Nat,b34<b14/\y12 b34 (IntKind.i64.wrap (n15-1)) w32)
 (R (Value.tuple #[]) w16)
def G3j1(α:Type)[S:SrtC α](t0:Sl)(t1:Int)(t2:Int)(t3:Nat×Array Value)(R:RV)(y1:Nat->Int->World->Prop)(b3:Nat)(n4:Int)(w5:World):Prop:=
 IfB (decide (0<=n4))
 (Cx (S.f 10)
 #[Value.slice t0.1 t0.2 t0.3,Value.int IntKind.i64 n4,Value.int IntKind.i64 (IntKind.i64.wrap (t2-t1)),Value.int IntKind.i64 t1,Value.func (Fn.func t3.1) #[] t3.2] w5
 fun(v8:Value) (w9:World)=>∃y10:Unit,v8=Value.tuple #[]/\([]:List Nat)=[]/\∃b11:Nat,b11<b3/\y1 b11 (IntKind.i64.wrap (n4-1)) w9)
 (∃(y12:Nat->Int->World->Prop),
 (∃b13:Nat,y12 b13 (IntKind.i64.wrap (IntKind.i64.wrap (t2-t1)-1)) w5)/\
 ∀(b14:Nat)(n15:Int)(w16:World)(y17:Nat->Value),
 y12 b14 n15 w16->
 (G3j2 α t0 t1 t3 R y12 b14 n15 w16))
def G3(α:Type)[S:SrtC α](t0:Sl)(t1:Int)(t2:Int)(t3:Nat×Array Value)(w:World)(R:RV):Prop:=
 ¬(2:Int)=0/\
 ∃(y1:Nat->Int->World->Prop),
 (∃b2:Nat,y1 b2 (IntKind.i64.wrap ((IntKind.i64.wrap (IntKind.i64.wrap (t2-t1)-1)).tdiv 2)) w)/\
 ∀(b3:Nat)(n4:Int)(w5:World)(y6:Nat->Value),
 y1 b3 n4 w5->
 (G3j1 α t0 t1 t2 t3 R y1 b3 n4 w5)
def G4j2(α:Type)[S:SrtC α](t0:Sl)(t1:Int)(y7:Nat->Int->World->Prop)(b9:Nat)(n10:Int)(n18:Int)(w19:World):Prop:=
 ∃b22:Nat,
 ∃b23:Nat,
 t0.1=some ⟨b22,b23,none⟩/\
 (0<=IntKind.i64.wrap (t1+n18)/\IntKind.i64.wrap (t1+n18)<(t0.2:Int))/\
 ∃(x24:α),
 CellsAt w19.drew b22 (b23+(IntKind.i64.wrap (t1+n18)).toNat*S.z) (S.c x24)/\
 ∃b25:Nat,
 ∃b26:Nat,
 t0.1=some ⟨b25,b26,none⟩/\
 (0<=n10/\n10<(t0.2:Int))/\
 ∃(x27:α),
 CellsAt w19.drew b25 (b26+n10.toNat*S.z) (S.c x27)/\
 ∃b28:Nat,
 ∃b29:Nat,
 t0.1=some ⟨b28,b29,none⟩/\
 (0<=n10/\n10<(t0.2:Int))/\
 (S.c x24).toArray.size=S.z/\
 StoreP w19.drew b28 (b29+n10.toNat*S.z) (S.c x24) fun(w30:World)=>
 ∃b31:Nat,
 ∃b32:Nat,
 t0.1=some ⟨b31,b32,none⟩/\
 (0<=IntKind.i64.wrap (t1+n18)/\IntKind.i64.wrap (t1+n18)<(t0.2:Int))/\
 (S.c x27).toArray.size=S.z/\
 StoreP w30 b31 (b32+(IntKind.i64.wrap (t1+n18)).toNat*S.z) (S.c x27) fun(w33:World)=>
 ([]:List Nat)=[]/\∃b34:Nat,b34<b9/\y7 b34 (IntKind.i64.wrap (n10+1)) w33
def G4j1(α:Type)[S:SrtC α](t0:Sl)(t1:Int)(t2:Int)(R:RV)(b1:Nat)(n6:Int)(y7:Nat->Int->World->Prop)(b9:Nat)(n10:Int)(w11:World):Prop:=
 ¬(4:Int)=0/\
 IfB (decide (n10<=IntKind.i64.wrap (IntKind.i64.wrap (t1+IntKind.i64.wrap (IntKind.i64.wrap ((IntKind.i64.wrap (t2-t1)).tdiv 4)*2))+1)))
 (Cx 244 #[Value.pointer (some ⟨b1,0,none⟩)] w11 fun(v14:Value) (w15:World)=>
 ∃n16:Int,
 v14=Value.int IntKind.u64 n16/\
 ∃(y17:Int->World->Prop),
 IfB (decide (IntKind.i64.wrap (t2-t1)<=IntKind.i64.wrap (bitsI BinOp.and IntKind.u64 n16 (IntKind.u64.wrap (n6-1)))))
 (([]:List Nat)=[]/\y17 (IntKind.i64.wrap (IntKind.i64.wrap (bitsI BinOp.and IntKind.u64 n16 (IntKind.u64.wrap (n6-1)))-IntKind.i64.wrap (t2-t1))) w15)
 (([]:List Nat)=[]/\y17 (IntKind.i64.wrap (bitsI BinOp.and IntKind.u64 n16 (IntKind.u64.wrap (n6-1)))) w15)/\
 ∀(n18:Int)(w19:World)(y20:Nat->Value),
 y17 n18 w19->
 (G4j2 α t0 t1 y7 b9 n10 n18 w19))
 (R (Value.tuple #[]) w11)
def G4(α:Type)[S:SrtC α](t0:Sl)(t1:Int)(t2:Int)(t3:Nat×Array Value)(w:World)(R:RV):Prop:=
 IfB (decide (8<=IntKind.i64.wrap (t2-t1)))
 (AllocP w (Obj.cells #[Value.int IntKind.u64 0] 259) fun(b1:Nat) (w2:World)=>
 #[Value.int IntKind.u64 (IntKind.u64.wrap (IntKind.i64.wrap (t2-t1)))].size=1/\
 StoreP w2 b1 0 [Value.int IntKind.u64 (IntKind.u64.wrap (IntKind.i64.wrap (t2-t1)))] fun(w3:World)=>
 Cx 243 #[Value.int IntKind.i64 (IntKind.i64.wrap (t2-t1))] w3 fun(v4:Value) (w5:World)=>
 ∃n6:Int,
 v4=Value.int IntKind.u64 n6/\
 ¬(4:Int)=0/\
 ∃(y7:Nat->Int->World->Prop),
 (∃b8:Nat,y7 b8 (IntKind.i64.wrap (IntKind.i64.wrap (t1+IntKind.i64.wrap (IntKind.i64.wrap ((IntKind.i64.wrap (t2-t1)).tdiv 4)*2))-1)) w5)/\
 ∀(b9:Nat)(n10:Int)(w11:World)(y12:Nat->Value),
 y7 b9 n10 w11->
 (G4j1 α t0 t1 t2 R b1 n6 y7 b9 n10 w11))
 (R (Value.tuple #[]) w)
def G5j2(α:Type)[S:SrtC α](R:RV)(b1:Nat)(n21:Int)(w22:World):Prop:=
 ∃n25:Int,
 w22.cell? ⟨b1,0,none⟩=some (Value.int IntKind.i64 n25)/\
 IfB (n25 == 0) (R (Value.tuple #[Value.int IntKind.i64 n21,Value.int IntKind.i64 1]) w22)
 (IfB (n25 == 12) (R (Value.tuple #[Value.int IntKind.i64 n21,Value.int IntKind.i64 2]) w22)
 (R (Value.tuple #[Value.int IntKind.i64 n21,Value.int IntKind.i64 0]) w22))
def G5(α:Type)[S:SrtC α](t0:Sl)(t1:Int)(t2:Int)(t3:Nat×Array Value)(w:World)(R:RV):Prop:=
 AllocP w (Obj.cells #[Value.int IntKind.i64 0] 3) fun(b1:Nat) (w2:World)=>
 ¬(4:Int)=0/\
 ¬(4:Int)=0/\
 ¬(4:Int)=0/\
 ∃(y3:Int->World->Prop),
 IfB (decide (8<=IntKind.i64.wrap (t2-t1)))
 (∃(y4:Int×Int×Int->World->Prop),
 IfB (decide (50<=IntKind.i64.wrap (t2-t1)))
 (Cx (S.f 11)
 #[Value.slice t0.1 t0.2 t0.3,Value.int IntKind.i64 (IntKind.i64.wrap (t1+IntKind.i64.wrap (IntKind.i64.wrap ((IntKind.i64.wrap (t2-t1)).tdiv 4)*1))),
 Value.pointer (some ⟨b1,0,none⟩),Value.func (Fn.func t3.1) #[] t3.2]
 w2 fun(v5:Value) (w6:World)=>
 ∃n7:Int,
 v5=Value.int IntKind.i64 n7/\
 Cx (S.f 11)
 #[Value.slice t0.1 t0.2 t0.3,Value.int IntKind.i64 (IntKind.i64.wrap (t1+IntKind.i64.wrap (IntKind.i64.wrap ((IntKind.i64.wrap (t2-t1)).tdiv 4)*2))),
 Value.pointer (some ⟨b1,0,none⟩),Value.func (Fn.func t3.1) #[] t3.2]
 w6 fun(v8:Value) (w9:World)=>
 ∃n10:Int,
 v8=Value.int IntKind.i64 n10/\
 Cx (S.f 11)
 #[Value.slice t0.1 t0.2 t0.3,Value.int IntKind.i64 (IntKind.i64.wrap (t1+IntKind.i64.wrap (IntKind.i64.wrap ((IntKind.i64.wrap (t2-t1)).tdiv 4)*3))),
 Value.pointer (some ⟨b1,0,none⟩),Value.func (Fn.func t3.1) #[] t3.2]
 w9 fun(v11:Value) (w12:World)=>∃n13:Int,v11=Value.int IntKind.i64 n13/\([]:List Nat)=[]/\y4 (n7,n10,n13) w12)
 (([]:List Nat)=[]/\
 y4
 (IntKind.i64.wrap (t1+IntKind.i64.wrap (IntKind.i64.wrap ((IntKind.i64.wrap (t2-t1)).tdiv 4)*1)),
 IntKind.i64.wrap (t1+IntKind.i64.wrap (IntKind.i64.wrap ((IntKind.i64.wrap (t2-t1)).tdiv 4)*2)),
 IntKind.i64.wrap (t1+IntKind.i64.wrap (IntKind.i64.wrap ((IntKind.i64.wrap (t2-t1)).tdiv 4)*3)))
 w2)/\
 ∀(x14:Int×Int×Int)(w15:World)(y16:Nat->Value),
 y4 x14 w15->
 Cx (S.f 12)
 #[Value.slice t0.1 t0.2 t0.3,Value.int IntKind.i64 x14.1,Value.int IntKind.i64 x14.snd.1,Value.int IntKind.i64 x14.snd.2,Value.pointer (some ⟨b1,0,none⟩),
 Value.func (Fn.func t3.1) #[] t3.2]
 w15 fun(v18:Value) (w19:World)=>∃n20:Int,v18=Value.int IntKind.i64 n20/\([]:List Nat)=[]/\y3 n20 w19)
 (([]:List Nat)=[]/\y3 (IntKind.i64.wrap (t1+IntKind.i64.wrap (IntKind.i64.wrap ((IntKind.i64.wrap (t2-t1)).tdiv 4)*2))) w2)/\
 ∀(n21:Int)(w22:World)(y23:Nat->Value),
 y3 n21 w22->
 (G5j2 α R b1 n21 w22)
def G6j1(α:Type)[S:SrtC α](t0:Sl)(R:RV)(y1:Nat->Int×Int->World->Prop)(b3:Nat)(x4:Int×Int)(w5:World):Prop:=
 IfB (decide (x4.fst<x4.snd))
 (∃b8:Nat,
 ∃b9:Nat,
 t0.1=some ⟨b8,b9,none⟩/\
 (0<=x4.2/\x4.2<(t0.2:Int))/\
 ∃(x10:α),
 CellsAt w5.drew b8 (b9+x4.2.toNat*S.z) (S.c x10)/\
 ∃b11:Nat,
 ∃b12:Nat,
 t0.1=some ⟨b11,b12,none⟩/\
 (0<=x4.1/\x4.1<(t0.2:Int))/\
 ∃(x13:α),
 CellsAt w5.drew b11 (b12+x4.1.toNat*S.z) (S.c x13)/\
 ∃b14:Nat,
 ∃b15:Nat,
 t0.1=some ⟨b14,b15,none⟩/\
 (0<=x4.1/\x4.1<(t0.2:Int))/\
 (S.c x10).toArray.size=S.z/\
 StoreP w5.drew b14 (b15+x4.1.toNat*S.z) (S.c x10) fun(w16:World)=>
 ∃b17:Nat,
 ∃b18:Nat,
 t0.1=some ⟨b17,b18,none⟩/\
 (0<=x4.2/\x4.2<(t0.2:Int))/\
 (S.c x13).toArray.size=S.z/\
 StoreP w16 b17 (b18+x4.2.toNat*S.z) (S.c x13) fun(w19:World)=>
 ([]:List Nat)=[]/\∃b20:Nat,b20<b3/\y1 b20 (IntKind.i64.wrap (x4.1+1),IntKind.i64.wrap (x4.2-1)) w19)
 (R (Value.tuple #[]) w5)
def G6(α:Type)[S:SrtC α](t0:Sl)(t1:Int)(t2:Int)(t3:Nat×Array Value)(w:World)(R:RV):Prop:=
 ∃(y1:Nat->Int×Int->World->Prop),
 (∃b2:Nat,y1 b2 (t1,IntKind.i64.wrap (t2-1)) w)/\
 ∀(b3:Nat)(x4:Int×Int)(w5:World)(y6:Nat->Value),
 y1 b3 x4 w5->
 (G6j1 α t0 R y1 b3 x4 w5)
def G7j2(α:Type)[S:SrtC α](t0:Sl)(t2:Int)(t3:Nat×Array Value)(y8:Int->World->Prop)(y9:Nat->Int->World->Prop)(b11:Nat)(n12:Int)(w13:World):Prop:=
 IfB (decide (n12<t2))
 (∃b16:Nat,
 ∃b17:Nat,
 t0.1=some ⟨b16,b17,none⟩/\
 (0<=n12/\n12<(t0.2:Int))/\
 ∃(x18:α),
 CellsAt w13.drew b16 (b17+n12.toNat*S.z) (S.c x18)/\
 ∃b19:Nat,
 ∃b20:Nat,
 t0.1=some ⟨b19,b20,none⟩/\
 (0<=IntKind.i64.wrap (n12-1)/\IntKind.i64.wrap (n12-1)<(t0.2:Int))/\
 ∃(x21:α),
 CellsAt w13.drew b19 (b20+(IntKind.i64.wrap (n12-1)).toNat*S.z) (S.c x21)/\
 Cx t3.1
 { toList:=(.agg (S.c x18).toArray)::(.agg (S.c x21).toArray)::t3.snd.1 }
 w13.drew fun(v22:Value) (w23:World)=>
 ∃n24:Int,v22=Value.int IntKind.i64 n24/\IfB (!decide (n24<0)) (([]:List Nat)=[]/\∃b25:Nat,b25<b11/\y9 b25 (IntKind.i64.wrap (n12+1)) w23) (([]:List Nat)=[]/\y8 n12 w23))
 (([]:List Nat)=[]/\y8 n12 w13.drew)
def G7j4(α:Type)[S:SrtC α](t0:Sl)(t3:Nat×Array Value)(y42:Unit->World->Prop)(y43:Nat->Int->World->Prop)(b45:Nat)(n46:Int)(w47:World):Prop:=
 IfB (decide (1<=n46))
 (∃b50:Nat,
 ∃b51:Nat,
 t0.1=some ⟨b50,b51,none⟩/\
 (0<=n46/\n46<(t0.2:Int))/\
 ∃(x52:α),
 CellsAt w47.drew b50 (b51+n46.toNat*S.z) (S.c x52)/\
 ∃b53:Nat,
 ∃b54:Nat,
 t0.1=some ⟨b53,b54,none⟩/\
 (0<=IntKind.i64.wrap (n46-1)/\IntKind.i64.wrap (n46-1)<(t0.2:Int))/\
 ∃(x55:α),
 CellsAt w47.drew b53 (b54+(IntKind.i64.wrap (n46-1)).toNat*S.z) (S.c x55)/\
 Cx t3.1
 { toList:=(.agg (S.c x52).toArray)::(.agg (S.c x55).toArray)::t3.snd.1 }
 w47.drew fun(v56:Value) (w57:World)=>
 ∃n58:Int,
 v56=Value.int IntKind.i64 n58/\
 IfB (!decide (n58<0)) (([]:List Nat)=[]/\y42 PUnit.unit w57)
 (∃b59:Nat,
 ∃b60:Nat,
 t0.1=some ⟨b59,b60,none⟩/\
 (0<=IntKind.i64.wrap (n46-1)/\IntKind.i64.wrap (n46-1)<(t0.2:Int))/\
 ∃(x61:α),
 CellsAt w57.drew b59 (b60+(IntKind.i64.wrap (n46-1)).toNat*S.z) (S.c x61)/\
 ∃b62:Nat,
 ∃b63:Nat,
 t0.1=some ⟨b62,b63,none⟩/\
 (0<=n46/\n46<(t0.2:Int))/\
 ∃(x64:α),
 CellsAt w57.drew b62 (b63+n46.toNat*S.z) (S.c x64)/\
 ∃b65:Nat,
 ∃b66:Nat,
 t0.1=some ⟨b65,b66,none⟩/\
 (0<=n46/\n46<(t0.2:Int))/\
 (S.c x61).toArray.size=S.z/\
 StoreP w57.drew b65 (b66+n46.toNat*S.z) (S.c x61) fun(w67:World)=>
 ∃b68:Nat,
 ∃b69:Nat,
 t0.1=some ⟨b68,b69,none⟩/\
 (0<=IntKind.i64.wrap (n46-1)/\IntKind.i64.wrap (n46-1)<(t0.2:Int))/\
 (S.c x64).toArray.size=S.z/\
 StoreP w67 b68 (b69+(IntKind.i64.wrap (n46-1)).toNat*S.z) (S.c x64) fun(w70:World)=>
 ([]:List Nat)=[]/\∃b71:Nat,b71<b45/\y43 b71 (IntKind.i64.wrap (n46-1)) w70))
 (([]:List Nat)=[]/\y42 PUnit.unit w47)
def G7j7(α:Type)[S:SrtC α](t0:Sl)(t2:Int)(t3:Nat×Array Value)(y1:Nat->Int×Int->World->Prop)(b3:Nat)(x4:Int×Int)(n26:Int)(y81:Nat->Int->World->Prop)(b83:Nat)(n84:Int)(w85:World):Prop:=
 IfB (decide (n84<t2))
 (∃b88:Nat,
 ∃b89:Nat,
 t0.1=some ⟨b88,b89,none⟩/\
 (0<=n84/\n84<(t0.2:Int))/\
 ∃(x90:α),
 CellsAt w85.drew b88 (b89+n84.toNat*S.z) (S.c x90)/\
 ∃b91:Nat,
 ∃b92:Nat,
 t0.1=some ⟨b91,b92,none⟩/\
 (0<=IntKind.i64.wrap (n84-1)/\IntKind.i64.wrap (n84-1)<(t0.2:Int))/\
 ∃(x93:α),
 CellsAt w85.drew b91 (b92+(IntKind.i64.wrap (n84-1)).toNat*S.z) (S.c x93)/\
 Cx t3.1
 { toList:=(.agg (S.c x90).toArray)::(.agg (S.c x93).toArray)::t3.snd.1 }
 w85.drew fun(v94:Value) (w95:World)=>
 ∃n96:Int,
 v94=Value.int IntKind.i64 n96/\
 IfB (!decide (n96<0)) (([]:List Nat)=[]/\∃b97:Nat,b97<b3/\y1 b97 (n26,IntKind.i64.wrap (x4.2+1)) w95)
 (∃b98:Nat,
 ∃b99:Nat,
 t0.1=some ⟨b98,b99,none⟩/\
 (0<=IntKind.i64.wrap (n84-1)/\IntKind.i64.wrap (n84-1)<(t0.2:Int))/\
 ∃(x100:α),
 CellsAt w95.drew b98 (b99+(IntKind.i64.wrap (n84-1)).toNat*S.z) (S.c x100)/\
 ∃b101:Nat,
 ∃b102:Nat,
 t0.1=some ⟨b101,b102,none⟩/\
 (0<=n84/\n84<(t0.2:Int))/\
 ∃(x103:α),
 CellsAt w95.drew b101 (b102+n84.toNat*S.z) (S.c x103)/\
 ∃b104:Nat,
 ∃b105:Nat,
 t0.1=some ⟨b104,b105,none⟩/\
 (0<=n84/\n84<(t0.2:Int))/\
 (S.c x100).toArray.size=S.z/\
 StoreP w95.drew b104 (b105+n84.toNat*S.z) (S.c x100) fun(w106:World)=>
 ∃b107:Nat,
 ∃b108:Nat,
 t0.1=some ⟨b107,b108,none⟩/\
 (0<=IntKind.i64.wrap (n84-1)/\IntKind.i64.wrap (n84-1)<(t0.2:Int))/\
 (S.c x103).toArray.size=S.z/\
 StoreP w106 b107 (b108+(IntKind.i64.wrap (n84-1)).toNat*S.z) (S.c x103)
 fun(w109:World)=>([]:List Nat)=[]/\∃b110:Nat,b110<b83/\y81 b110 (IntKind.i64.wrap (n84+1)) w109))
 (([]:List Nat)=[]/\∃b111:Nat,b111<b3/\y1 b111 (n26,IntKind.i64.wrap (x4.2+1)) w85)
def G7j5(α:Type)[S:SrtC α](t0:Sl)(t2:Int)(t3:Nat×Array Value)(y1:Nat->Int×Int->World->Prop)(b3:Nat)(x4:Int×Int)(n26:Int)(w73:World):Prop:=
 ∃(y76:Bool->World->Prop),
 (([]:List Nat)=[]/\y76 (decide (2<=IntKind.i64.wrap (t2-n26))) w73)/\
 ∀(t77:Bool)(w78:World)(y79:Nat->Value),
 y76 t77 w78->
 IfB t77
 (∃(y81:Nat->Int->World->Prop),
 (∃b82:Nat,y81 b82 (IntKind.i64.wrap (n26+1)) w78)/\
 ∀(b83:Nat)(n84:Int)(w85:World)(y86:Nat->Value),
 y81 b83 n84 w85->
 (G7j7 α t0 t2 t3 y1 b3 x4 n26 y81 b83 n84 w85))
 (([]:List Nat)=[]/\∃b112:Nat,b112<b3/\y1 b112 (n26,IntKind.i64.wrap (x4.2+1)) w78)
def G7j3(α:Type)[S:SrtC α](t0:Sl)(t1:Int)(t2:Int)(t3:Nat×Array Value)(R:RV)(y1:Nat->Int×Int->World->Prop)(b3:Nat)(x4:Int×Int)(n26:Int)(w27:World):Prop:=
 IfB (n26 == t2) (R (Value.bool true) w27)
 (IfB (decide (IntKind.i64.wrap (t2-t1)<50)) (R (Value.bool false) w27)
 (∃b30:Nat,
 ∃b31:Nat,
 t0.1=some ⟨b30,b31,none⟩/\
 (0<=IntKind.i64.wrap (n26-1)/\IntKind.i64.wrap (n26-1)<(t0.2:Int))/\
 ∃(x32:α),
 CellsAt w27.drew b30 (b31+(IntKind.i64.wrap (n26-1)).toNat*S.z) (S.c x32)/\
 ∃b33:Nat,
 ∃b34:Nat,
 t0.1=some ⟨b33,b34,none⟩/\
 (0<=n26/\n26<(t0.2:Int))/\
 ∃(x35:α),
 CellsAt w27.drew b33 (b34+n26.toNat*S.z) (S.c x35)/\
 ∃b36:Nat,
 ∃b37:Nat,
 t0.1=some ⟨b36,b37,none⟩/\
 (0<=n26/\n26<(t0.2:Int))/\
 (S.c x32).toArray.size=S.z/\
 StoreP w27.drew b36 (b37+n26.toNat*S.z) (S.c x32) fun(w38:World)=>
 ∃b39:Nat,
 ∃b40:Nat,
 t0.1=some ⟨b39,b40,none⟩/\
 (0<=IntKind.i64.wrap (n26-1)/\IntKind.i64.wrap (n26-1)<(t0.2:Int))/\
 (S.c x35).toArray.size=S.z/\
 StoreP w38 b39 (b40+(IntKind.i64.wrap (n26-1)).toNat*S.z) (S.c x35) fun(w41:World)=>
 ∃(y42:Unit->World->Prop),
 IfB (decide (2<=IntKind.i64.wrap (n26-t1)))
 (∃(y43:Nat->Int->World->Prop),
 (∃b44:Nat,y43 b44 (IntKind.i64.wrap (n26-1)) w41)/\
 ∀(b45:Nat)(n46:Int)(w47:World)(y48:Nat->Value),
 y43 b45 n46 w47->
 (G7j4 α t0 t3 y42 y43 b45 n46 w47))
 (([]:List Nat)=[]/\y42 PUnit.unit w41)/\
 ∀(y72:Unit)(w73:World)(y74:Nat->Value),
 y42 y72 w73->
 (G7j5 α t0 t2 t3 y1 b3 x4 n26 w73)))
def G7(α:Type)[S:SrtC α](t0:Sl)(t1:Int)(t2:Int)(t3:Nat×Array Value)(w:World)(R:RV):Prop:=
 ∃(y1:Nat->Int×Int->World->Prop),
 (∃b2:Nat,y1 b2 (IntKind.i64.wrap (t1+1),0) w)/\
 ∀(b3:Nat)(x4:Int×Int)(w5:World)(y6:Nat->Value),
 y1 b3 x4 w5->
 IfB (decide (x4.snd<5))
 (∃(y8:Int->World->Prop),
 (∃(y9:Nat->Int->World->Prop),
 (∃b10:Nat,y9 b10 x4.1 w5)/\
 ∀(b11:Nat)(n12:Int)(w13:World)(y14:Nat->Value),
 y9 b11 n12 w13->
 (G7j2 α t0 t2 t3 y8 y9 b11 n12 w13))/\
 ∀(n26:Int)(w27:World)(y28:Nat->Value),
 y8 n26 w27->
 (G7j3 α t0 t1 t2 t3 R y1 b3 x4 n26 w27))
 (R (Value.bool false) w5)
def G8j2(α:Type)[S:SrtC α](t0:Sl)(t1:Int)(t4:Nat×Array Value)(x16:Int×Int)(y20:Int->World->Prop)(y21:Nat->Int->World->Prop)(b23:Nat)(n24:Int)(w25:World):Prop:=
 IfB (decide (n24<=x16.snd))
 (∃b28:Nat,
 ∃b29:Nat,
 t0.1=some ⟨b28,b29,none⟩/\
 (0<=t1/\t1<(t0.2:Int))/\
 ∃(x30:α),
 CellsAt w25.drew b28 (b29+t1.toNat*S.z) (S.c x30)/\
 ∃b31:Nat,
 ∃b32:Nat,
 t0.1=some ⟨b31,b32,none⟩/\
 (0<=n24/\n24<(t0.2:Int))/\
 ∃(x33:α),
 CellsAt w25.drew b31 (b32+n24.toNat*S.z) (S.c x33)/\
 Cx t4.1
 { toList:=(.agg (S.c x30).toArray)::(.agg (S.c x33).toArray)::t4.snd.1 }
 w25.drew fun(v34:Value) (w35:World)=>
 ∃n36:Int,v34=Value.int IntKind.i64 n36/\IfB (!decide (n36<0)) (([]:List Nat)=[]/\∃b37:Nat,b37<b23/\y21 b37 (IntKind.i64.wrap (n24+1)) w35) (([]:List Nat)=[]/\y20 n24 w35))
 (([]:List Nat)=[]/\y20 n24 w25.drew)
def G8j4(α:Type)[S:SrtC α](t0:Sl)(t1:Int)(t4:Nat×Array Value)(n38:Int)(y42:Int->World->Prop)(y43:Nat->Int->World->Prop)(b45:Nat)(n46:Int)(w47:World):Prop:=
 IfB (decide (n38<=n46))
 (∃b50:Nat,
 ∃b51:Nat,
 t0.1=some ⟨b50,b51,none⟩/\
 (0<=t1/\t1<(t0.2:Int))/\
 ∃(x52:α),
 CellsAt w47.drew b50 (b51+t1.toNat*S.z) (S.c x52)/\
 ∃b53:Nat,
 ∃b54:Nat,
 t0.1=some ⟨b53,b54,none⟩/\
 (0<=n46/\n46<(t0.2:Int))/\
 ∃(x55:α),
 CellsAt w47.drew b53 (b54+n46.toNat*S.z) (S.c x55)/\
 Cx t4.1
 { toList:=(.agg (S.c x52).toArray)::(.agg (S.c x55).toArray)::t4.snd.1 }
 w47.drew fun(v56:Value) (w57:World)=>
 ∃n58:Int,v56=Value.int IntKind.i64 n58/\IfB (decide (n58<0)) (([]:List Nat)=[]/\∃b59:Nat,b59<b45/\y43 b59 (IntKind.i64.wrap (n46-1)) w57) (([]:List Nat)=[]/\y42 n46 w57))
 (([]:List Nat)=[]/\y42 n46 w47.drew)
def G8j5(α:Type)[S:SrtC α](t0:Sl)(R:RV)(y13:Nat->Int×Int->World->Prop)(b15:Nat)(n38:Int)(n60:Int)(w61:World):Prop:=
 IfB (decide (n60<n38)) (R (Value.int IntKind.i64 n38) w61)
 (∃b64:Nat,
 ∃b65:Nat,
 t0.1=some ⟨b64,b65,none⟩/\
 (0<=n60/\n60<(t0.2:Int))/\
 ∃(x66:α),
 CellsAt w61.drew b64 (b65+n60.toNat*S.z) (S.c x66)/\
 ∃b67:Nat,
 ∃b68:Nat,
 t0.1=some ⟨b67,b68,none⟩/\
 (0<=n38/\n38<(t0.2:Int))/\
 ∃(x69:α),
 CellsAt w61.drew b67 (b68+n38.toNat*S.z) (S.c x69)/\
 ∃b70:Nat,
 ∃b71:Nat,
 t0.1=some ⟨b70,b71,none⟩/\
 (0<=n38/\n38<(t0.2:Int))/\
 (S.c x66).toArray.size=S.z/\
 StoreP w61.drew b70 (b71+n38.toNat*S.z) (S.c x66) fun(w72:World)=>
 ∃b73:Nat,
 ∃b74:Nat,
 t0.1=some ⟨b73,b74,none⟩/\
 (0<=n60/\n60<(t0.2:Int))/\
 (S.c x69).toArray.size=S.z/\
 StoreP w72 b73 (b74+n60.toNat*S.z) (S.c x69) fun(w75:World)=>
 ([]:List Nat)=[]/\∃b76:Nat,b76<b15/\y13 b76 (IntKind.i64.wrap (n38+1),IntKind.i64.wrap (n60-1)) w75)
def G8j1(α:Type)[S:SrtC α](t0:Sl)(t1:Int)(t4:Nat×Array Value)(R:RV)(y13:Nat->Int×Int->World->Prop)(b15:Nat)(x16:Int×Int)(w17:World):Prop:=
 ∃(y20:Int->World->Prop),
 (∃(y21:Nat->Int->World->Prop),
 (∃b22:Nat,y21 b22 x16.1 w17)/\
 ∀(b23:Nat)(n24:Int)(w25:World)(y26:Nat->Value),
 y21 b23 n24 w25->
 (G8j2 α t0 t1 t4 x16 y20 y21 b23 n24 w25))/\
 ∀(n38:Int)(w39:World)(y40:Nat->Value),
 y20 n38 w39->
 ∃(y42:Int->World->Prop),
 (∃(y43:Nat->Int->World->Prop),
 (∃b44:Nat,y43 b44 x16.2 w39)/\
 ∀(b45:Nat)(n46:Int)(w47:World)(y48:Nat->Value),
 y43 b45 n46 w47->
 (G8j4 α t0 t1 t4 n38 y42 y43 b45 n46 w47))/\
 ∀(n60:Int)(w61:World)(y62:Nat->Value),
 y42 n60 w61->
 (G8j5 α t0 R y13 b15 n38 n60 w61)
def G8(α:Type)[S:SrtC α](t0:Sl)(t1:Int)(t2:Int)(t3:Int)(t4:Nat×Array Value)(w:World)(R:RV):Prop:=
 ∃b1:Nat,
 ∃b2:Nat,
 t0.1=some ⟨b1,b2,none⟩/\
 (0<=t3/\t3<(t0.2:Int))/\
 ∃(x3:α),
 CellsAt w.drew b1 (b2+t3.toNat*S.z) (S.c x3)/\
 ∃b4:Nat,
 ∃b5:Nat,
 t0.1=some ⟨b4,b5,none⟩/\
 (0<=t1/\t1<(t0.2:Int))/\
 ∃(x6:α),
 CellsAt w.drew b4 (b5+t1.toNat*S.z) (S.c x6)/\
 ∃b7:Nat,
 ∃b8:Nat,
 t0.1=some ⟨b7,b8,none⟩/\
 (0<=t1/\t1<(t0.2:Int))/\
 (S.c x3).toArray.size=S.z/\
 StoreP w.drew b7 (b8+t1.toNat*S.z) (S.c x3) fun(w9:World)=>
 ∃b10:Nat,
 ∃b11:Nat,
 t0.1=some ⟨b10,b11,none⟩/\
 (0<=t3/\t3<(t0.2:Int))/\
 (S.c x6).toArray.size=S.z/\
 StoreP w9 b10 (b11+t3.toNat*S.z) (S.c x6) fun(w12:World)=>
 ∃(y13:Nat->Int×Int->World->Prop),
 (∃b14:Nat,y13 b14 (IntKind.i64.wrap (t1+1),IntKind.i64.wrap (t2-1)) w12)/\
 ∀(b15:Nat)(x16:Int×Int)(w17:World)(y18:Nat->Value),
 y13 b15 x16 w17->
 (G8j1 α t0 t1 t4 R y13 b15 x16 w17)
def G9j1(α:Type)[S:SrtC α](t0:Sl)(t1:Int)(t2:Int)(t4:Nat×Array Value)(y13:Int->World->Prop)(y14:Nat->Int->World->Prop)(b16:Nat)(n17:Int)(w18:World):Prop:=
 IfB (decide (n17<=IntKind.i64.wrap (t2-1)))
 (∃b21:Nat,
 ∃b22:Nat,
 t0.1=some ⟨b21,b22,none⟩/\
 (0<=n17/\n17<(t0.2:Int))/\
 ∃(x23:α),
 CellsAt w18.drew b21 (b22+n17.toNat*S.z) (S.c x23)/\
 ∃b24:Nat,
 ∃b25:Nat,
 t0.1=some ⟨b24,b25,none⟩/\
 (0<=t1/\t1<(t0.2:Int))/\
 ∃(x26:α),
 CellsAt w18.drew b24 (b25+t1.toNat*S.z) (S.c x26)/\
 Cx t4.1
 { toList:=(.agg (S.c x23).toArray)::(.agg (S.c x26).toArray)::t4.snd.1 }
 w18.drew fun(v27:Value) (w28:World)=>
 ∃n29:Int,v27=Value.int IntKind.i64 n29/\IfB (decide (n29<0)) (([]:List Nat)=[]/\∃b30:Nat,b30<b16/\y14 b30 (IntKind.i64.wrap (n17+1)) w28) (([]:List Nat)=[]/\y13 n17 w28))
 (([]:List Nat)=[]/\y13 n17 w18.drew)
def G9j3(α:Type)[S:SrtC α](t0:Sl)(t1:Int)(t4:Nat×Array Value)(n31:Int)(y35:Int->World->Prop)(y36:Nat->Int->World->Prop)(b38:Nat)(n39:Int)(w40:World):Prop:=
 IfB (decide (n31<=n39))
 (∃b43:Nat,
 ∃b44:Nat,
 t0.1=some ⟨b43,b44,none⟩/\
 (0<=n39/\n39<(t0.2:Int))/\
 ∃(x45:α),
 CellsAt w40.drew b43 (b44+n39.toNat*S.z) (S.c x45)/\
 ∃b46:Nat,
 ∃b47:Nat,
 t0.1=some ⟨b46,b47,none⟩/\
 (0<=t1/\t1<(t0.2:Int))/\
 ∃(x48:α),
 CellsAt w40.drew b46 (b47+t1.toNat*S.z) (S.c x48)/\
 Cx t4.1
 { toList:=(.agg (S.c x45).toArray)::(.agg (S.c x48).toArray)::t4.snd.1 }
 w40.drew fun(v49:Value) (w50:World)=>
 ∃n51:Int,v49=Value.int IntKind.i64 n51/\IfB (!decide (n51<0)) (([]:List Nat)=[]/\∃b52:Nat,b52<b38/\y36 b52 (IntKind.i64.wrap (n39-1)) w50) (([]:List Nat)=[]/\y35 n39 w50))
 (([]:List Nat)=[]/\y35 n39 w40.drew)
def G9j6(α:Type)[S:SrtC α](t0:Sl)(t1:Int)(t4:Nat×Array Value)(x84:Int×Int)(y88:Int->World->Prop)(y89:Nat->Int->World->Prop)(b91:Nat)(n92:Int)(w93:World):Prop:=
 IfB (decide (n92<=x84.snd))
 (∃b96:Nat,
 ∃b97:Nat,
 t0.1=some ⟨b96,b97,none⟩/\
 (0<=n92/\n92<(t0.2:Int))/\
 ∃(x98:α),
 CellsAt w93.drew b96 (b97+n92.toNat*S.z) (S.c x98)/\
 ∃b99:Nat,
 ∃b100:Nat,
 t0.1=some ⟨b99,b100,none⟩/\
 (0<=t1/\t1<(t0.2:Int))/\
 ∃(x101:α),
 CellsAt w93.drew b99 (b100+t1.toNat*S.z) (S.c x101)/\
 Cx t4.1
 { toList:=(.agg (S.c x98).toArray)::(.agg (S.c x101).toArray)::t4.snd.1 }
 w93.drew fun(v102:Value) (w103:World)=>
 ∃n104:Int,
 v102=Value.int IntKind.i64 n104/\IfB (decide (n104<0)) (([]:List Nat)=[]/\∃b105:Nat,b105<b91/\y89 b105 (IntKind.i64.wrap (n92+1)) w103) (([]:List Nat)=[]/\y88 n92 w103))
 (([]:List Nat)=[]/\y88 n92 w93.drew)
def G9j8(α:Type)[S:SrtC α](t0:Sl)(t1:Int)(t4:Nat×Array Value)(n106:Int)(y110:Int->World->Prop)(y111:Nat->Int->World->Prop)(b113:Nat)(n114:Int)(w115:World):Prop:=
 IfB (decide (n106<=n114))
 (∃b118:Nat,
 ∃b119:Nat,
 t0.1=some ⟨b118,b119,none⟩/\
 (0<=n114/\n114<(t0.2:Int))/\
 ∃(x120:α),
 CellsAt w115.drew b118 (b119+n114.toNat*S.z) (S.c x120)/\
 ∃b121:Nat,
 ∃b122:Nat,
 t0.1=some ⟨b121,b122,none⟩/\
 (0<=t1/\t1<(t0.2:Int))/\
 ∃(x123:α),
 CellsAt w115.drew b121 (b122+t1.toNat*S.z) (S.c x123)/\
 Cx t4.1
 { toList:=(.agg (S.c x120).toArray)::(.agg (S.c x123).toArray)::t4.snd.1 }
 w115.drew fun(v124:Value) (w125:World)=>
 ∃n126:Int,
 v124=Value.int IntKind.i64 n126/\IfB (!decide (n126<0)) (([]:List Nat)=[]/\∃b127:Nat,b127<b113/\y111 b127 (IntKind.i64.wrap (n114-1)) w125) (([]:List Nat)=[]/\y110 n114 w125))
 (([]:List Nat)=[]/\y110 n114 w115.drew)
def G9j9(α:Type)[S:SrtC α](t0:Sl)(t1:Int)(R:RV)(y81:Nat->Int×Int->World->Prop)(b83:Nat)(n106:Int)(n128:Int)(w129:World):Prop:=
 IfB (decide (n128<n106))
 (∃b132:Nat,
 ∃b133:Nat,
 t0.1=some ⟨b132,b133,none⟩/\
 (0<=t1/\t1<(t0.2:Int))/\
 ∃(x134:α),
 CellsAt w129.drew b132 (b133+t1.toNat*S.z) (S.c x134)/\
 ∃b135:Nat,
 ∃b136:Nat,
 t0.1=some ⟨b135,b136,none⟩/\
 (0<=n128/\n128<(t0.2:Int))/\
 ∃(x137:α),
 CellsAt w129.drew b135 (b136+n128.toNat*S.z) (S.c x137)/\
 ∃b138:Nat,
 ∃b139:Nat,
 t0.1=some ⟨b138,b139,none⟩/\
 (0<=n128/\n128<(t0.2:Int))/\
 (S.c x134).toArray.size=S.z/\
 StoreP w129.drew b138 (b139+n128.toNat*S.z) (S.c x134) fun(w140:World)=>
 ∃b141:Nat,
 ∃b142:Nat,
 t0.1=some ⟨b141,b142,none⟩/\
 (0<=t1/\t1<(t0.2:Int))/\
 (S.c x137).toArray.size=S.z/\
 StoreP w140 b141 (b142+t1.toNat*S.z) (S.c x137) fun(w143:World)=>
 R (Value.tuple #[Value.int IntKind.i64 n128,Value.bool false]) w143)
 (∃b144:Nat,
 ∃b145:Nat,
 t0.1=some ⟨b144,b145,none⟩/\
 (0<=n128/\n128<(t0.2:Int))/\
 ∃(x146:α),
 CellsAt w129.drew b144 (b145+n128.toNat*S.z) (S.c x146)/\
 ∃b147:Nat,
 ∃b148:Nat,
 t0.1=some ⟨b147,b148,none⟩/\
 (0<=n106/\n106<(t0.2:Int))/\
 ∃(x149:α),
 CellsAt w129.drew b147 (b148+n106.toNat*S.z) (S.c x149)/\
 ∃b150:Nat,
 ∃b151:Nat,
 t0.1=some ⟨b150,b151,none⟩/\
 (0<=n106/\n106<(t0.2:Int))/\
 (S.c x146).toArray.size=S.z/\
 StoreP w129.drew b150 (b151+n106.toNat*S.z) (S.c x146) fun(w152:World)=>
 ∃b153:Nat,
 ∃b154:Nat,
 t0.1=some ⟨b153,b154,none⟩/\
 (0<=n128/\n128<(t0.2:Int))/\
 (S.c x149).toArray.size=S.z/\
 StoreP w152 b153 (b154+n128.toNat*S.z) (S.c x149) fun(w155:World)=>
 ([]:List Nat)=[]/\∃b156:Nat,b156<b83/\y81 b156 (IntKind.i64.wrap (n106+1),IntKind.i64.wrap (n128-1)) w155)
def G9j5(α:Type)[S:SrtC α](t0:Sl)(t1:Int)(t4:Nat×Array Value)(R:RV)(y81:Nat->Int×Int->World->Prop)(b83:Nat)(x84:Int×Int)(w85:World):Prop:=
 ∃(y88:Int->World->Prop),
 (∃(y89:Nat->Int->World->Prop),
 (∃b90:Nat,y89 b90 x84.1 w85)/\
 ∀(b91:Nat)(n92:Int)(w93:World)(y94:Nat->Value),
 y89 b91 n92 w93->
 (G9j6 α t0 t1 t4 x84 y88 y89 b91 n92 w93))/\
 ∀(n106:Int)(w107:World)(y108:Nat->Value),
 y88 n106 w107->
 ∃(y110:Int->World->Prop),
 (∃(y111:Nat->Int->World->Prop),
 (∃b112:Nat,y111 b112 x84.2 w107)/\
 ∀(b113:Nat)(n114:Int)(w115:World)(y116:Nat->Value),
 y111 b113 n114 w115->
 (G9j8 α t0 t1 t4 n106 y110 y111 b113 n114 w115))/\
 ∀(n128:Int)(w129:World)(y130:Nat->Value),
 y110 n128 w129->
 (G9j9 α t0 t1 R y81 b83 n106 n128 w129)
def G9j4(α:Type)[S:SrtC α](t0:Sl)(t1:Int)(t4:Nat×Array Value)(R:RV)(n31:Int)(n53:Int)(w54:World):Prop:=
 IfB (decide (n53<n31))
 (∃b57:Nat,
 ∃b58:Nat,
 t0.1=some ⟨b57,b58,none⟩/\
 (0<=t1/\t1<(t0.2:Int))/\
 ∃(x59:α),
 CellsAt w54.drew b57 (b58+t1.toNat*S.z) (S.c x59)/\
 ∃b60:Nat,
 ∃b61:Nat,
 t0.1=some ⟨b60,b61,none⟩/\
 (0<=n53/\n53<(t0.2:Int))/\
 ∃(x62:α),
 CellsAt w54.drew b60 (b61+n53.toNat*S.z) (S.c x62)/\
 ∃b63:Nat,
 ∃b64:Nat,
 t0.1=some ⟨b63,b64,none⟩/\
 (0<=n53/\n53<(t0.2:Int))/\
 (S.c x59).toArray.size=S.z/\
 StoreP w54.drew b63 (b64+n53.toNat*S.z) (S.c x59) fun(w65:World)=>
 ∃b66:Nat,
 ∃b67:Nat,
 t0.1=some ⟨b66,b67,none⟩/\
 (0<=t1/\t1<(t0.2:Int))/\
 (S.c x62).toArray.size=S.z/\
 StoreP w65 b66 (b67+t1.toNat*S.z) (S.c x62) fun(w68:World)=>
 R (Value.tuple #[Value.int IntKind.i64 n53,Value.bool true]) w68)
 (∃b69:Nat,
 ∃b70:Nat,
 t0.1=some ⟨b69,b70,none⟩/\
 (0<=n53/\n53<(t0.2:Int))/\
 ∃(x71:α),
 CellsAt w54.drew b69 (b70+n53.toNat*S.z) (S.c x71)/\
 ∃b72:Nat,
 ∃b73:Nat,
 t0.1=some ⟨b72,b73,none⟩/\
 (0<=n31/\n31<(t0.2:Int))/\
 ∃(x74:α),
 CellsAt w54.drew b72 (b73+n31.toNat*S.z) (S.c x74)/\
 ∃b75:Nat,
 ∃b76:Nat,
 t0.1=some ⟨b75,b76,none⟩/\
 (0<=n31/\n31<(t0.2:Int))/\
 (S.c x71).toArray.size=S.z/\
 StoreP w54.drew b75 (b76+n31.toNat*S.z) (S.c x71) fun(w77:World)=>
 ∃b78:Nat,
 ∃b79:Nat,
 t0.1=some ⟨b78,b79,none⟩/\
 (0<=n53/\n53<(t0.2:Int))/\
 (S.c x74).toArray.size=S.z/\
 StoreP w77 b78 (b79+n53.toNat*S.z) (S.c x74) fun(w80:World)=>
 ∃(y81:Nat->Int×Int->World->Prop),
 (∃b82:Nat,y81 b82 (IntKind.i64.wrap (n31+1),IntKind.i64.wrap (n53-1)) w80)/\
 ∀(b83:Nat)(x84:Int×Int)(w85:World)(y86:Nat->Value),
 y81 b83 x84 w85->
 (G9j5 α t0 t1 t4 R y81 b83 x84 w85))
def G9(α:Type)[S:SrtC α](t0:Sl)(t1:Int)(t2:Int)(t3:Int)(t4:Nat×Array Value)(w:World)(R:RV):Prop:=
 ∃b1:Nat,
 ∃b2:Nat,
 t0.1=some ⟨b1,b2,none⟩/\
 (0<=t3/\t3<(t0.2:Int))/\
 ∃(x3:α),
 CellsAt w.drew b1 (b2+t3.toNat*S.z) (S.c x3)/\
 ∃b4:Nat,
 ∃b5:Nat,
 t0.1=some ⟨b4,b5,none⟩/\
 (0<=t1/\t1<(t0.2:Int))/\
 ∃(x6:α),
 CellsAt w.drew b4 (b5+t1.toNat*S.z) (S.c x6)/\
 ∃b7:Nat,
 ∃b8:Nat,
 t0.1=some ⟨b7,b8,none⟩/\
 (0<=t1/\t1<(t0.2:Int))/\
 (S.c x3).toArray.size=S.z/\
 StoreP w.drew b7 (b8+t1.toNat*S.z) (S.c x3) fun(w9:World)=>
 ∃b10:Nat,
 ∃b11:Nat,
 t0.1=some ⟨b10,b11,none⟩/\
 (0<=t3/\t3<(t0.2:Int))/\
 (S.c x6).toArray.size=S.z/\
 StoreP w9 b10 (b11+t3.toNat*S.z) (S.c x6) fun(w12:World)=>
 ∃(y13:Int->World->Prop),
 (∃(y14:Nat->Int->World->Prop),
 (∃b15:Nat,y14 b15 (IntKind.i64.wrap (t1+1)) w12)/\
 ∀(b16:Nat)(n17:Int)(w18:World)(y19:Nat->Value),
 y14 b16 n17 w18->
 (G9j1 α t0 t1 t2 t4 y13 y14 b16 n17 w18))/\
 ∀(n31:Int)(w32:World)(y33:Nat->Value),
 y13 n31 w32->
 ∃(y35:Int->World->Prop),
 (∃(y36:Nat->Int->World->Prop),
 (∃b37:Nat,y36 b37 (IntKind.i64.wrap (t2-1)) w32)/\
 ∀(b38:Nat)(n39:Int)(w40:World)(y41:Nat->Value),
 y36 b38 n39 w40->
 (G9j3 α t0 t1 t4 n31 y35 y36 b38 n39 w40))/\
 ∀(n53:Int)(w54:World)(y55:Nat->Value),
 y35 n53 w54->
 (G9j4 α t0 t1 t4 R n31 n53 w54)
def G10j2(α:Type)[S:SrtC α](t0:Sl)(t3:Int)(t4:Nat×Array Value)(R:RV)(y1:Nat->Int->World->Prop)(b3:Nat)(n4:Int)(n18:Int)(w19:World):Prop:=
 ∃b22:Nat,
 ∃b23:Nat,
 t0.1=some ⟨b22,b23,none⟩/\
 (0<=IntKind.i64.wrap (t3+n4)/\IntKind.i64.wrap (t3+n4)<(t0.2:Int))/\
 ∃(x24:α),
 CellsAt w19.drew b22 (b23+(IntKind.i64.wrap (t3+n4)).toNat*S.z) (S.c x24)/\
 ∃b25:Nat,
 ∃b26:Nat,
 t0.1=some ⟨b25,b26,none⟩/\
 (0<=IntKind.i64.wrap (t3+n18)/\IntKind.i64.wrap (t3+n18)<(t0.2:Int))/\
 ∃(x27:α),
 CellsAt w19.drew b25 (b26+(IntKind.i64.wrap (t3+n18)).toNat*S.z) (S.c x27)/\
 Cx t4.1
 { toList:=(.agg (S.c x24).toArray)::(.agg (S.c x27).toArray)::t4.snd.1 }
 w19.drew fun(v28:Value) (w29:World)=>
 ∃n30:Int,
 v28=Value.int IntKind.i64 n30/\
 IfB (!decide (n30<0)) (R (Value.tuple #[]) w29)
 (∃b31:Nat,
 ∃b32:Nat,
 t0.1=some ⟨b31,b32,none⟩/\
 (0<=IntKind.i64.wrap (t3+n18)/\IntKind.i64.wrap (t3+n18)<(t0.2:Int))/\
 ∃(x33:α),
 CellsAt w29.drew b31 (b32+(IntKind.i64.wrap (t3+n18)).toNat*S.z) (S.c x33)/\
 ∃b34:Nat,
 ∃b35:Nat,
 t0.1=some ⟨b34,b35,none⟩/\
 (0<=IntKind.i64.wrap (t3+n4)/\IntKind.i64.wrap (t3+n4)<(t0.2:Int))/\
 ∃(x36:α),
 CellsAt w29.drew b34 (b35+(IntKind.i64.wrap (t3+n4)).toNat*S.z) (S.c x36)/\
 ∃b37:Nat,
 ∃b38:Nat,
 t0.1=some ⟨b37,b38,none⟩/\
 (0<=IntKind.i64.wrap (t3+n4)/\IntKind.i64.wrap (t3+n4)<(t0.2:Int))/\
 (S.c x33).toArray.size=S.z/\
 StoreP w29.drew b37 (b38+(IntKind.i64.wrap (t3+n4)).toNat*S.z) (S.c x33) fun(w39:World)=>
 ∃b40:Nat,
 ∃b41:Nat,
 t0.1=some ⟨b40,b41,none⟩/\
 (0<=IntKind.i64.wrap (t3+n18)/\IntKind.i64.wrap (t3+n18)<(t0.2:Int))/\
 (S.c x36).toArray.size=S.z/\
 StoreP w39 b40 (b41+(IntKind.i64.wrap (t3+n18)).toNat*S.z) (S.c x36) fun(w42:World)=>
 ([]:List Nat)=[]/\∃b43:Nat,b43<b3/\y1 b43 n18 w42)
def G10j1(α:Type)[S:SrtC α](t0:Sl)(t2:Int)(t3:Int)(t4:Nat×Array Value)(R:RV)(y1:Nat->Int->World->Prop)(b3:Nat)(n4:Int)(w5:World):Prop:=
 IfB (decide (t2<=IntKind.i64.wrap (IntKind.i64.wrap (2*n4)+1))) (R (Value.tuple #[]) w5)
 (∃(y8:Int->World->Prop),
 IfB (decide (IntKind.i64.wrap (IntKind.i64.wrap (IntKind.i64.wrap (2*n4)+1)+1)<t2))
 (∃b9:Nat,
 ∃b10:Nat,
 t0.1=some ⟨b9,b10,none⟩/\
 (0<=IntKind.i64.wrap (t3+IntKind.i64.wrap (IntKind.i64.wrap (2*n4)+1))/\
 IntKind.i64.wrap (t3+IntKind.i64.wrap (IntKind.i64.wrap (2*n4)+1))<(t0.2:Int))/\
 ∃(x11:α),
 CellsAt w5.drew b9 (b10+(IntKind.i64.wrap (t3+IntKind.i64.wrap (IntKind.i64.wrap (2*n4)+1))).toNat*S.z)
 (S.c x11)/\
 ∃b12:Nat,
 ∃b13:Nat,
 t0.1=some ⟨b12,b13,none⟩/\
 (0<=IntKind.i64.wrap (IntKind.i64.wrap (t3+IntKind.i64.wrap (IntKind.i64.wrap (2*n4)+1))+1)/\
 IntKind.i64.wrap (IntKind.i64.wrap (t3+IntKind.i64.wrap (IntKind.i64.wrap (2*n4)+1))+1)<(t0.2:Int))/\
 ∃(x14:α),
 CellsAt w5.drew b12 (b13+(IntKind.i64.wrap (IntKind.i64.wrap (t3+IntKind.i64.wrap (IntKind.i64.wrap (2*n4)+1))+1)).toNat*S.z)
 (S.c x14)/\
 Cx t4.1
 { toList:=(.agg (S.c x11).toArray)::(.agg (S.c x14).toArray)::t4.snd.1 }
 w5.drew fun(v15:Value) (w16:World)=>
 ∃n17:Int,
 v15=Value.int IntKind.i64 n17/\
 IfB (decide (n17<0)) (([]:List Nat)=[]/\y8 (IntKind.i64.wrap (IntKind.i64.wrap (IntKind.i64.wrap (2*n4)+1)+1)) w16)
 (([]:List Nat)=[]/\y8 (IntKind.i64.wrap (IntKind.i64.wrap (2*n4)+1)) w16))
 (([]:List Nat)=[]/\y8 (IntKind.i64.wrap (IntKind.i64.wrap (2*n4)+1)) w5.drew)/\
 ∀(n18:Int)(w19:World)(y20:Nat->Value),
 y8 n18 w19->
 (G10j2 α t0 t3 t4 R y1 b3 n4 n18 w19))
def G10(α:Type)[S:SrtC α](t0:Sl)(t1:Int)(t2:Int)(t3:Int)(t4:Nat×Array Value)(w:World)(R:RV):Prop:=
 ∃(y1:Nat->Int->World->Prop),
 (∃b2:Nat,y1 b2 t1 w)/\
 ∀(b3:Nat)(n4:Int)(w5:World)(y6:Nat->Value),
 y1 b3 n4 w5->
 (G10j1 α t0 t2 t3 t4 R y1 b3 n4 w5)
def G11(α:Type)[S:SrtC α](t0:Sl)(t1:Int)(t2:Option Addr)(t3:Nat×Array Value)(w:World)(R:RV):Prop:=
 Cx (S.f 12)
 #[Value.slice t0.1 t0.2 t0.3,Value.int IntKind.i64 (IntKind.i64.wrap (t1-1)),Value.int IntKind.i64 t1,Value.int IntKind.i64 (IntKind.i64.wrap (t1+1)),Value.pointer t2,
 Value.func (Fn.func t3.1) #[] t3.2]
 w fun(v1:Value) (w2:World)=>∃n3:Int,v1=Value.int IntKind.i64 n3/\R (Value.int IntKind.i64 n3) w2
def G12(α:Type)[S:SrtC α](t0:Sl)(t1:Int)(t2:Int)(t3:Int)(t4:Option Addr)(t5:Nat×Array Value)(w:World)(R:RV):Prop:=
 Cx (S.f 13) #[Value.slice t0.1 t0.2 t0.3,Value.int IntKind.i64 t1,Value.int IntKind.i64 t2,Value.pointer t4,Value.func (Fn.func t5.1) #[] t5.2] w
 fun(v1:Value) (w2:World)=>
 ∃(x3:Int×Int),
 v1=Value.tuple #[Value.int IntKind.i64 x3.1,Value.int IntKind.i64 x3.2]/\
 Cx (S.f 13) #[Value.slice t0.1 t0.2 t0.3,Value.int IntKind.i64 x3.2,Value.int IntKind.i64 t3,Value.pointer t4,Value.func (Fn.func t5.1) #[] t5.2] w2
 fun(v4:Value) (w5:World)=>
 ∃(x6:Int×Int),
 v4=Value.tuple #[Value.int IntKind.i64 x6.1,Value.int IntKind.i64 x6.2]/\
 Cx (S.f 13) #[Value.slice t0.1 t0.2 t0.3,Value.int IntKind.i64 x3.1,Value.int IntKind.i64 x6.1,Value.pointer t4,Value.func (Fn.func t5.1) #[] t5.2] w5
 fun(v7:Value) (w8:World)=>∃(x9:Int×Int),v7=Value.tuple #[Value.int IntKind.i64 x9.1,Value.int IntKind.i64 x9.2]/\R (Value.int IntKind.i64 x9.2) w8
def G13(α:Type)[S:SrtC α](t0:Sl)(t1:Int)(t2:Int)(t3:Option Addr)(t4:Nat×Array Value)(w:World)(R:RV):Prop:=
 ∃b1:Nat,
 ∃b2:Nat,
 t0.1=some ⟨b1,b2,none⟩/\
 (0<=t2/\t2<(t0.2:Int))/\
 ∃(x3:α),
 CellsAt w.drew b1 (b2+t2.toNat*S.z) (S.c x3)/\
 ∃b4:Nat,
 ∃b5:Nat,
 t0.1=some ⟨b4,b5,none⟩/\
 (0<=t1/\t1<(t0.2:Int))/\
 ∃(x6:α),
 CellsAt w.drew b4 (b5+t1.toNat*S.z) (S.c x6)/\
 Cx t4.1
 { toList:=(.agg (S.c x3).toArray)::(.agg (S.c x6).toArray)::t4.snd.1 }
 w.drew fun(v7:Value) (w8:World)=>
 ∃n9:Int,
 v7=Value.int IntKind.i64 n9/\
 IfB (decide (n9<0))
 (∃b10:Nat,
 ∃b11:Nat,
 t3=some ⟨b10,b11,none⟩/\
 ∃n12:Int,
 w8.cell? ⟨b10,b11,none⟩=some (Value.int IntKind.i64 n12)/\
 ∃b13:Nat,
 ∃b14:Nat,
 t3=some ⟨b13,b14,none⟩/\
 #[Value.int IntKind.i64 (IntKind.i64.wrap (n12+1))].size=1/\
 StoreP w8 b13 b14 [Value.int IntKind.i64 (IntKind.i64.wrap (n12+1))] fun(w15:World)=>R (Value.tuple #[Value.int IntKind.i64 t2,Value.int IntKind.i64 t1]) w15)
 (R (Value.tuple #[Value.int IntKind.i64 t1,Value.int IntKind.i64 t2]) w8)
class SrtOk (α:Type) [S:SrtC α]:Prop where
 k0:∀(t0:Sl)(t1:Nat×Array Value)(w:World)(R:RV),G0 α t0 t1 w R->Cw (S.f 0) #[Value.slice t0.1 t0.2 t0.3,Value.func (Fn.func t1.1) #[] t1.2] w R
 k1:∀(t0:Sl)(t1:Int)(t2:Int)(t3:Int)(t4:Nat×Array Value)(w:World)(R:RV),G1 α t0 t1 t2 t3 t4 w R->Cw (S.f 1) #[Value.slice t0.1 t0.2 t0.3,Value.int IntKind.i64 t1,Value.int IntKind.i64 t2,Value.int IntKind.i64 t3,Value.func (Fn.func t4.1) #[] t4.2] w R
 k2:∀(t0:Sl)(t1:Int)(t2:Int)(t3:Nat×Array Value)(w:World)(R:RV),G2 α t0 t1 t2 t3 w R->Cw (S.f 2) #[Value.slice t0.1 t0.2 t0.3,Value.int IntKind.i64 t1,Value.int IntKind.i64 t2,Value.func (Fn.func t3.1) #[] t3.2] w R
 k3:∀(t0:Sl)(t1:Int)(t2:Int)(t3:Nat×Array Value)(w:World)(R:RV),G3 α t0 t1 t2 t3 w R->Cw (S.f 3) #[Value.slice t0.1 t0.2 t0.3,Value.int IntKind.i64 t1,Value.int IntKind.i64 t2,Value.func (Fn.func t3.1) #[] t3.2] w R
 k4:∀(t0:Sl)(t1:Int)(t2:Int)(t3:Nat×Array Value)(w:World)(R:RV),G4 α t0 t1 t2 t3 w R->Cw (S.f 4) #[Value.slice t0.1 t0.2 t0.3,Value.int IntKind.i64 t1,Value.int IntKind.i64 t2,Value.func (Fn.func t3.1) #[] t3.2] w R
 k5:∀(t0:Sl)(t1:Int)(t2:Int)(t3:Nat×Array Value)(w:World)(R:RV),G5 α t0 t1 t2 t3 w R->Cw (S.f 5) #[Value.slice t0.1 t0.2 t0.3,Value.int IntKind.i64 t1,Value.int IntKind.i64 t2,Value.func (Fn.func t3.1) #[] t3.2] w R
 k6:∀(t0:Sl)(t1:Int)(t2:Int)(t3:Nat×Array Value)(w:World)(R:RV),G6 α t0 t1 t2 t3 w R->Cw (S.f 6) #[Value.slice t0.1 t0.2 t0.3,Value.int IntKind.i64 t1,Value.int IntKind.i64 t2,Value.func (Fn.func t3.1) #[] t3.2] w R
 k7:∀(t0:Sl)(t1:Int)(t2:Int)(t3:Nat×Array Value)(w:World)(R:RV),G7 α t0 t1 t2 t3 w R->Cw (S.f 7) #[Value.slice t0.1 t0.2 t0.3,Value.int IntKind.i64 t1,Value.int IntKind.i64 t2,Value.func (Fn.func t3.1) #[] t3.2] w R
 k8:∀(t0:Sl)(t1:Int)(t2:Int)(t3:Int)(t4:Nat×Array Value)(w:World)(R:RV),G8 α t0 t1 t2 t3 t4 w R->Cw (S.f 8) #[Value.slice t0.1 t0.2 t0.3,Value.int IntKind.i64 t1,Value.int IntKind.i64 t2,Value.int IntKind.i64 t3,Value.func (Fn.func t4.1) #[] t4.2] w R
 k9:∀(t0:Sl)(t1:Int)(t2:Int)(t3:Int)(t4:Nat×Array Value)(w:World)(R:RV),G9 α t0 t1 t2 t3 t4 w R->Cw (S.f 9) #[Value.slice t0.1 t0.2 t0.3,Value.int IntKind.i64 t1,Value.int IntKind.i64 t2,Value.int IntKind.i64 t3,Value.func (Fn.func t4.1) #[] t4.2] w R
 k10:∀(t0:Sl)(t1:Int)(t2:Int)(t3:Int)(t4:Nat×Array Value)(w:World)(R:RV),G10 α t0 t1 t2 t3 t4 w R->Cw (S.f 10) #[Value.slice t0.1 t0.2 t0.3,Value.int IntKind.i64 t1,Value.int IntKind.i64 t2,Value.int IntKind.i64 t3,Value.func (Fn.func t4.1) #[] t4.2] w R
 k11:∀(t0:Sl)(t1:Int)(t2:Option Addr)(t3:Nat×Array Value)(w:World)(R:RV),G11 α t0 t1 t2 t3 w R->Cw (S.f 11) #[Value.slice t0.1 t0.2 t0.3,Value.int IntKind.i64 t1,Value.pointer t2,Value.func (Fn.func t3.1) #[] t3.2] w R
 k12:∀(t0:Sl)(t1:Int)(t2:Int)(t3:Int)(t4:Option Addr)(t5:Nat×Array Value)(w:World)(R:RV),G12 α t0 t1 t2 t3 t4 t5 w R->Cw (S.f 12) #[Value.slice t0.1 t0.2 t0.3,Value.int IntKind.i64 t1,Value.int IntKind.i64 t2,Value.int IntKind.i64 t3,Value.pointer t4,Value.func (Fn.func t5.1) #[] t5.2] w R
 k13:∀(t0:Sl)(t1:Int)(t2:Int)(t3:Option Addr)(t4:Nat×Array Value)(w:World)(R:RV),G13 α t0 t1 t2 t3 t4 w R->Cw (S.f 13) #[Value.slice t0.1 t0.2 t0.3,Value.int IntKind.i64 t1,Value.int IntKind.i64 t2,Value.pointer t3,Value.func (Fn.func t4.1) #[] t4.2] w R
end Go.Proofs.YtlpgdngcgbeegaaGreat.Gx
