/- Merged by pack.py: KeyC, GxLJ, GxJ, IntA, Arg, CatP, GxLF, IntF, GxOB, PrgA, PrgB, GxOC, FotA, GxPD, KeyD, GxPC, PagesA, PagesM. -/
import Derived.Test.YtoahfpabpdjkkaaGreatSw1
import Derived.Test.YtoahfpabpdjkkaaGreatSw2
import Derived.Test.YtoahfpabpdjkkaaGreatSw3
namespace Go.Proofs.YtoahfpabpdjkkaaGreat.Gx
open Go
set_option linter.unusedSimpArgs false
set_option linter.unusedVariables false
def bothS(x y:Spn):Spn:=(if x.1<y.1 then y.1 else x.1,if y.2<x.2 then y.2 else x.2)
def meetRow(x:Spn)(bs:List Spn):List Spn:=(bs.map (bothS x)).filter fun s=>decide (s.1<=s.2)
def meetL(ls bs:List Spn):List Spn:=ls.flatMap fun x=>meetRow x bs
theorem meetRow_take{x y:Spn}{bs:List Spn}{j:Nat}(h:bs[j]? =some y):meetRow x (bs.take (j+1))=meetRow x (bs.take j)++if (bothS x y).1<=(bothS x y).2 then [bothS x y] else []:=by
 unfold meetRow
 rw[take_succ_get h,List.map_append,List.filter_append]
 congr 1
 by_cases hc:(bothS x y).1<=(bothS x y).2<;>simp[hc]
theorem meetL_take{ls bs:List Spn}{i:Nat}{x:Spn}(h:ls[i]? =some x):meetL (ls.take (i+1)) bs=meetL (ls.take i) bs++meetRow x bs:=by
 unfold meetL;rw[take_succ_get h,List.flatMap_append];simp
structure InvM(b1 b3:Nat)(sa sb:Sl)(ls bs:List Spn)(W:World):Prop where
 a:∃T,W.heap[b1]? =some (.cells #[slV sa] T (0,0))
 b:∃T,W.heap[b3]? =some (.cells #[slV sb] T (0,0))
 ra:Rd W sa 2 (ls.flatMap sv)
 rb:Rd W sb 2 (bs.flatMap sv)
theorem InvM.stb{n b1 b3:Nat}{sa sb:Sl}{ls bs:List Spn}{W W':World}(h:InvM b1 b3 sa sb ls bs W)(hS:Stb n W W'):InvM b1 b3 sa sb ls bs W':=by
 obtain⟨⟨T,h1⟩,⟨T',h2⟩,h3,h4⟩:=h
 exact⟨⟨T,hS.keep _ _ h1 rfl⟩,⟨T',hS.keep _ _ h2 rfl⟩,rd_stb h3 hS,rd_stb h4 hS⟩
abbrev spA(x:Spn):Array Value:=#[spV x]
theorem itM(b1 b3:Nat)(sa sb:Sl)(ls bs:List Spn)(hla:ls.length<=1000000)(hlb:bs.length<=1000000):
  IterU Tryz.prog 81 #[.pointer (some ⟨b1,0,none⟩),.pointer (some ⟨b3,0,none⟩)] spA false (fun pre x=>∃post,pre++x::post=meetL ls bs) (fun xs=>xs=meetL ls bs) (InvM b1 b3 sa sb ls bs):=by
 refine⟨en81,fun l J Jx U W hJ hJx hInv hSz _ hU hU1 hstep h0=>?_⟩
 have hI0:=hInv _ _ h0
 have han:=rdN sv_len (by omega) hI0.ra
 have hbn:=rdN sv_len (by omega) hI0.rb
 obtain⟨T1,hT1⟩:=hI0.a
 refine F81_ok l b1 b3 W _ ⟨sa,by rw[cell_of hT1];rfl,fun n x w6=>∃i:Nat,i<=ls.length/\n+i=ls.length/\x=(i:Int)/\J (meetL (ls.take i) bs) w6,⟨ls.length,0,Nat.zero_le _,rfl,rfl,h0⟩,?_⟩
 rintro n _ w6 g ⟨i,hi,hni,rfl,hj⟩
 have hw6:=hSz _ _ hj
 unfold F81j1
 refine IfB.dec (fun hlt=>?_) fun hge=>?_
 ·have hi':i<ls.length:=by omega
  have hx:ls[i]? =some ls[i]:=List.getElem?_eq_getElem hi'
  have hmt:=meetL_take (bs:=bs) hx
  have hsplit:∀(q:List Spn),(∃r,q++r=meetRow ls[i] bs)->∃r,meetL (ls.take i) bs++q++r=meetL ls bs:=fun q ⟨r,hr⟩=>by
   refine⟨r++meetL (ls.drop (i+1)) bs,?_⟩
   have:meetL ls bs=meetL (ls.take (i+1)) bs++meetL (ls.drop (i+1)) bs:=by
    unfold meetL;rw[<-List.flatMap_append,List.take_append_drop]
   rw[this,hmt,<-hr];simp
  generalize ls[i]=x at hx hmt hsplit
  obtain⟨a,o,hp,hc⟩:=(hInv _ _ hj).ra.elem (i:=i) (by omega) (by omega) (flatGet sv_len hx)
  refine⟨a,o,hp,⟨by omega,hlt⟩,x,by rw[Int.toNat_natCast];exact hc,boxSp rfl fun b12 w14 hb12 hs14 h14 e14 hS14=>?_⟩
  have hj14:=hJ _ _ _ hj (hS14 _ hw6)
  have hI14:=hInv _ _ hj14
  obtain⟨T2,hT2⟩:=hI14.b
  have hn12:¬U w14 b12:=fun h=>by
   have:=hU1 _ _ hj _ (hU _ _ (hS14 _ hw6) _ h)
   omega
  refine⟨sb,by rw[cell_of hT2];rfl,fun m y w20=>∃j:Nat,j<=bs.length/\m+j=bs.length/\y=(j:Int)/\J (meetL (ls.take i) bs++meetRow x (bs.take j)) w20/\(∃T,w20.heap[b12]? =some (.cells #[.int .i64 x.1,.int .i64 x.2] T (0,0)))/\¬U w20 b12,
   ⟨bs.length,0,Nat.zero_le _,rfl,rfl,by simpa [meetRow] using hj14,⟨_,h14⟩,hn12⟩,?_⟩
  rintro m _ w20 g ⟨j,hj1,hmj,rfl,hJ20,⟨T3,h20⟩,hn20⟩
  have hw20:=hSz _ _ hJ20
  unfold F81j2
  refine IfB.dec (fun hlt2=>?_) fun hge2=>?_
  ·have hj':j<bs.length:=by omega
   have hy:bs[j]? =some bs[j]:=List.getElem?_eq_getElem hj'
   have hmr:=meetRow_take (x:=x) hy
   have hrest:∃r,meetRow x (bs.take (j+1))++r=meetRow x bs:=⟨meetRow x (bs.drop (j+1)),by
    unfold meetRow;rw[<-List.filter_append,<-List.map_append,List.take_append_drop]⟩
   generalize bs[j]=y at hy hmr
   obtain⟨a2,o2,hp2,hc2⟩:=(hInv _ _ hJ20).rb.elem (i:=j) (by omega) (by omega) (flatGet sv_len hy)
   have hi1:IntKind.i64.wrap ((j:Int)+1)=((j+1:Nat):Int):=by rw[wrap_of (by omega) (by omega)];rfl
   have hlt12:=heap_lt h20
   refine⟨a2,o2,hp2,⟨by omega,hlt2⟩,y,by rw[Int.toNat_natCast];exact hc2,boxSp rfl fun b26 w28 hb26 hs28 h28 e28 hS28=>?_⟩
   have k28:=e28.at h20
   refine⟨x.1,by rw[cell_of k28];rfl,y.1,by rw[cell_of h28];rfl,x.2,by rw[cell_of k28];rfl,y.2,by rw[cell_of h28];rfl,boxSp (x:=bothS x y) rfl fun b33 w35 hb33 hs35 h35 e35 hS35=>?_⟩
   have hS:∀n,n<=w20.heap.size->Stb n w20 w35:=fun n hn=>(hS28 n hn).trans (hS35 n (by omega))
   have hJ35:=hJ _ _ _ hJ20 (hS _ hw20)
   have k35:=e35.at k28
   have hn35:¬U w35 b12:=fun h=>hn20 (hU _ _ (hS _ hw20) _ h)
   refine⟨(bothS x y).1,by rw[cell_of h35];rfl,(bothS x y).2,by rw[cell_of h35];rfl,IfB.dec (fun hne=>?_) fun hne=>?_⟩
   ·rw[if_pos hne] at hmr
    refine⟨bothS x y,cellsAt_of h35 fun i v hv=>by simpa using hv,(hstep _ (bothS x y) w35 hJ35 ?_).mono fun t w40 ht=>?_⟩
    ·obtain⟨r,hr⟩:=hsplit _ hrest
     exact⟨r,by rw[<-hr,hmr];simp⟩
    ·cases t with
     | false=>exact IfB.yes rfl (.inr ⟨_,ht⟩)
     | true=>
      obtain⟨hJ40,_,hK⟩:=ht
      refine IfB.no rfl ⟨rfl,m-1,by omega,j+1,hj',by omega,hi1,?_,⟨T3,?_⟩,fun h=>?_⟩
      ·rw[hmr,<-List.append_assoc];exact hJ40
      ·exact hK.at' b12 _ (by omega) hn35 k35 rfl
      ·rcases hK.own _ h with h|h
       ·exact hn35 h
       ·omega
   ·rw[if_neg hne,List.append_nil] at hmr
    exact⟨rfl,m-1,by omega,j+1,hj',by omega,hi1,by rw[hmr];exact hJ35,⟨T3,k35⟩,hn35⟩
  ·have hj':j=bs.length:=by omega
   subst hj'
   rw[List.take_length] at hJ20
   exact⟨rfl,n-1,by omega,i+1,hi',by omega,by rw[wrap_of (by omega) (by omega)];rfl,by rw[hmt];exact hJ20⟩
 ·have hi':i=ls.length:=by omega
  subst hi'
  rw[List.take_length] at hj
  exact .inl ⟨_,rfl,hj⟩
theorem c49(sa sb:Sl)(w:World):Cw 49 #[slV sa,slV sb] w fun v w'=>∃b1 b3,v=.func (.func 81) #[] #[.pointer (some ⟨b1,0,none⟩),.pointer (some ⟨b3,0,none⟩)]/\
  (∃T,w'.heap[b1]? =some (.cells #[slV sa] T (0,0)))/\(∃T,w'.heap[b3]? =some (.cells #[slV sb] T (0,0)))/\w.heap.size<=b1/\w.heap.size<=b3/\Ext w w':=
 F49_ok sa sb w _ fun b1 w2 h2 b3 w4 h4=>⟨b1,b3,rfl,⟨_,h4.at h2.new⟩,⟨_,h4.new⟩,Nat.le_of_eq h2.here.symm,by rw[h4.here,h2.size];omega,(h2.ch _).trans (h4.ch _)⟩
theorem sumS_one(s:Sl)(l:List Spn):sumS [(s,l)]=l.length:=by simp[sumS]
theorem plain1{w:World}{s:Sl}{xs:List Spn}(h:Rd w s 2 (xs.flatMap sv))(hl:xs.length<=1000000){K:RV}
  (hK:∀t' os w',NormS os->(∀k,hasS os k↔hasS xs k)->OwS w' t' 2 (os.flatMap sv)->os.length<=xs.length->Ext w w'->(∀j∈blk t',w.heap.size<=j)->K (slV t') w'){T:TypeId}:
  AllocP w (.cells #[slV s] T) fun b w2=>Cx 50 #[.slice (some ⟨b,0,none⟩) 1 1] w2 K:=by
 intro b w2 h2
 have e2:Ext w w2:=h2.ch _
 have hR:Rd w2 ⟨some ⟨b,0,none⟩,1,1⟩ 1 ([(s,xs)].map hS):=(OwS.new (cs:=[slV s]) (n:=1) (sz:=1) h2 rfl).rd
 refine(c50 hR (fun x hx=>by rw[List.mem_singleton.1 hx];exact h.ext e2) (by rw[sumS_one];exact hl) (by simp)).use ?_
 rintro _ w' ⟨t',os,rfl,h1,h3,h4,h5,h6,h7⟩
 rw[sumS_one] at h5
 simp only[List.flatMap_cons,List.flatMap_nil,List.append_nil] at h3
 exact hK t' os w' h1 h3 h4 h5 (e2.trans h6) fun j hj=>by have:=h7 j hj;have:=e2.size;omega
set_option maxRecDepth 100000
noncomputable def R135_0:Code:=codeAt [1,0,1,0] (bodyOf Tryz.f135)
def R135_0a:An:=.nil
theorem R135_0ok1:okC tb Tryz.f135.ntmps (rA R135_0) .nil=true:=by kernel_rfl
theorem R135_0ok2:okC tb Tryz.f135.ntmps (rB R135_0) R135_0a=true:=by kernel_rfl
theorem R135_0okp:(rP R135_0).toList.all (fun p=>Nat.blt p Tryz.f135.ntmps)=true:=by kernel_rfl
theorem F135_ok(t0:Sl)(t1:Nat×Array Value)(w:World)(R:RV)(h:AllocP w (Obj.cells #[Qy t0] 37) fun b1 w2=>∀(y3:Nat->Value),RangeP Tryz.prog tb (nat_lit 13) none R135_0a (rG R135_0) (rP R135_0) (rA R135_0) (rB R135_0) (frC y3 [(2,Value.pointer (some ⟨b1,0,none⟩)),(4,Value.slice none 0 0),(6,Value.func (Fn.func t1.1) #[] t1.2)]) [] w2 (fun(l4:List Df) (w5:World)=>Qs w5 b1 0 fun s6=>marksP w5 l4 fun w7=>R (Qy s6) w7) (fun(l8:List Df) (w9:World)=>marksP w9 l8 fun w10=>R (Value.slice none 0 0) w10) fun(b11:Nat) (l12:List Df) (w13:World)=>match b11.beq 0 with|true=>Qs w13 b1 0 fun s15=>marksP w13 l12 fun w16=>R (Qy s15) w16|false=>False):Cw 135 #[Qy t0,Value.func (Fn.func t1.1) #[] t1.2] w R:=
 ckF Tryz.func135 (nd (.node (nd (.rng [(2,.one (.box)),(4,.one (.sl)),(6,.one (.clo))] .nil)) .nil)) h (by kernel_rfl) (by kernel_rfl)
theorem F135b0_ok(t2:Nat)(t4:Sl)(t6:Nat×Array Value)(x7:Int)(l D n₀:Nat)(Jn:World->Prop)(Jx:Code->World->Prop)(W:World){g:Nat->Value}(h:([]:List Df)=[]/\(W.1[l]? =W.1[l]? /\W.1[D]? =W.1[D]?)/\∀(w9:World),Stb n₀ W w9->Its W w9->(∃y12:Loop,w9.1[l]? =some (Obj.loop y12))->∃s16:Sl,w9.cell? ⟨t2,0,none⟩=some (Qy s16)/\1*1<=16777216/\AllocP w9 (Obj.cells #[Qz x7] 3) fun b17 w18=>∃(l19:List Value),ReadC w18 (some ⟨b17,0,none⟩) (1*1) l19/\AppendP tt3 3 w18 s16.1 s16.2 s16.3 1 l19 fun s20 w21=>#[Qy s20].size=1/\StoreP w21 t2 0 [Qy s20] fun w22=>(w22.1[l]? =w9.1[l]? /\w22.1[D]? =w9.1[D]?)/\Jn w22):
  BodyP Tryz.prog tb Tryz.f135.ntmps l D n₀ R135_0a (rP R135_0) (rA R135_0) (rB R135_0) (frC g [(2,Value.pointer (some ⟨t2,0,none⟩)),(4,Value.slice t4.1 t4.2 t4.3),(6,Value.func (Fn.func t6.1) #[] t6.2)]) Jn Jx [Value.int IntKind.i64 x7] W:=
 Eq.mp (by kernel_rfl) h
theorem F111_ok(t0:Nat×Array Value)(w:World)(R:RV)(h:Cx 135 #[Value.slice none 0 0,Value.func (Fn.func t0.1) #[] t0.2] w fun v1 w2=>∃s3:Sl,v1=Qy s3/\R (Qy s3) w2):Cw 111 #[Value.func (Fn.func t0.1) #[] t0.2] w R:=
 ckF Tryz.func111 .nil h (by kernel_rfl) (by kernel_rfl)
theorem F64_ok(t0:Nat×Array Value)(w:World)(R:RV)(h:Cx 111 #[Value.func (Fn.func t0.1) #[] t0.2] w fun v1 w2=>∃s3:Sl,v1=Qy s3/\Cx 112 #[Qy s3] w2 fun v4 w5=>∃y6:Unit,v4=Value.tuple #[]/\R (Qy s3) w5):Cw 64 #[Value.func (Fn.func t0.1) #[] t0.2] w R:=
 ckF Tryz.func64 .nil h (by kernel_rfl) (by kernel_rfl)
structure IntIt(gf:Nat)(lb:Array Value)(w:World)(Fin:List Int->Prop):Prop where
 ex:∃(Nxt:List Int->Int->Prop)(Inv:World->Prop)(Good:List Int->Prop),Iter Tryz.prog gf lb ivA false Nxt Fin Inv/\Inv w/\(∀n W W',Inv W->Stb n W W'->Inv W')/\(∀F W W',Inv W->Ch F W W'->(∀i,F i->w.heap.size<=i)->Inv W')/\
  Good []/\(∀pre x,Good pre->Nxt pre x->Good (pre++[x]))/\∀l,Good l->l.length<=1000000
theorem oneIv(x:Int):One [iv x]:=by intro v hv;rw[List.mem_singleton.1 hv];rfl
theorem ivA_sz(x:Int):(ivA x).size=1:=rfl
theorem appendSeq_of{w:World}{gf:Nat}{lb:Array Value}{Fin:List Int->Prop}(h:IntIt gf lb w Fin):
  Cw 135 #[.slice none 0 0,.func (.func gf) #[] lb] w fun v w'=>∃t,∃xs:List Int,v=slV t/\Fin xs/\xs.length<=1000000/\OwS w' t 1 (xs.map iv)/\Ext w w'/\∀j∈blk t,w.heap.size<=j:=by
 obtain⟨Nxt,Inv,Good,it,hI0,hIs,hIc,hG0,hGs,hGl⟩:=h.ex
 refine F135_ok ⟨none,0,0⟩ (gf,lb) w _ ?_
 intro b2 w2 h2 g
 have e2:Ext w w2:=h2.ch _
 have hs2:=h2.size
 have hh2:=h2.here
 let G:List Int->World->Prop:=fun pre W=>Good pre/\Inv W/\∃t:Sl,(∃T,W.heap[b2]? =some (.cells #[slV t] T (0,0)))/\OwS W t 1 (pre.map iv)/\(∀j∈blk t,w2.heap.size+2<=j)/\Ch (fun i=>w.heap.size<=i) w W
 refine range_none tbOk mixed (gf:=gf) (lb:=lb) rfl it R135_0ok1 R135_0ok2 R135_0okp ivA_sz G (fun _ _ _=>False) ?_ (fun _ _ _ _ h=>h.elim) ?_ (fun h=>by cases h) ?_ ?_ ?_ (fun _ _ _ h=>h.elim)
 ·rintro pre W W' ⟨h1,h3,t,⟨T,h4⟩,h5,h6,h7⟩ hS
  exact⟨h1,hIs _ _ _ h3 hS,t,⟨T,hS.keep _ _ h4 rfl⟩,h5.stb hS,h6,h7.then (.ofStb hS) fun i _ hi=>by omega⟩
 ·rintro pre W ⟨_,h3,_⟩;exact h3
 ·exact⟨hG0,hIc _ _ _ hI0 e2 fun _ h=>h.elim,⟨none,0,0⟩,⟨_,h2.new⟩,.nil _ _,by simp[blk],e2.mono fun _ _ h=>h.elim⟩
 ·rintro pre x W ⟨hgd,hJ,t,⟨T,hb⟩,ho,hbl,hC⟩ hxn hW
  refine F135b0_ok b2 ⟨none,0,0⟩ (gf,lb) x _ _ _ _ _ W ?_
  refine⟨rfl,⟨rfl,rfl⟩,fun w12 hS hI0 hL=>?_⟩
  have H:=hS.keep _ _ hb rfl
  have ho12:=ho.stb hS
  have hJ12:=hIs _ _ _ hJ hS
  have hC12:Ch (fun i=>w.heap.size<=i) w w12:=hC.then (.ofStb hS) fun i _ hi=>by omega
  have hs12:=hS.size
  refine⟨t,by rw[cell_of H];rfl,by decide,fun b20 w21 h21=>?_⟩
  refine⟨[iv x],⟨rfl,cellsAt_of h21.new fun i v hv=>by simpa using hv⟩,?_⟩
  have e21:Ext w12 w21:=h21.ch _
  have htn:t.n=pre.length:=by have:=ho.len1;rw[List.length_map] at this;exact this
  have hpl:=hGl _ hgd
  have hgd2:=hGs _ _ hgd hxn
  have hpl2:=hGl _ hgd2
  rw[List.length_append,List.length_singleton] at hpl2
  refine(ho12.ext e21).append (cnt:=1) rfl rfl rfl (oneIv x) ⟨by omega,by dsimp only;omega⟩ ?_
  intro s' w24 ho' hn' hc' hb' _
  have hne:∀i,i<w2.heap.size->¬i∈blk t:=fun i hi h=>by have:=hbl i h;omega
  have H24:=hc'.at (e21.at H) (hne _ (by omega))
  refine⟨rfl,store_one H24 (by simp) rfl fun w25 h25=>?_⟩
  have hc25:Ch (fun i=>i=b2\/i∈blk t) w12 w25:=(((e21.mono fun _ _ h=>h.elim).then hc' fun i _ h=>.inr h).then h25.ch fun i _ h=>.inl h)
  have hb2':∀j∈blk s',w2.heap.size+2<=j:=fun j hj=>by
   rcases hb' j hj with h|h
   ·exact hbl j h
   ·have:=e21.size;omega
  have far:∀i,i<w2.heap.size+2->i≠b2->¬(i=b2\/i∈blk t):=fun i hi hne' h=>h.elim hne' fun h=>by have:=hbl i h;omega
  refine⟨⟨hc25.old _ (by omega) (far _ (by omega) (by omega)),hc25.old _ (by omega) (far _ (by omega) (by omega))⟩,⟨hgd2,hIc _ _ _ hJ12 hc25 (fun i hi=>hi.elim (fun e=>by omega) fun h=>by have:=hbl i h;omega),s',⟨_,h25.new⟩,?_,hb2',?_⟩,hI0.trans (Its.ch hc25 fun i hi=>hi.elim (fun e=>e ▸ notIt H) (fun h=>ho12.blkIt h))⟩
  ·have:=ho'.ch h25.ch fun j hj e=>by have:=hb2' j hj;omega
   rw[List.map_append];exact this
  ·exact hC12.then hc25 fun i hi h=>by
    rcases h with h|h
    ·omega
    ·have:=hbl _ h;omega
 ·rintro xs W hxs ⟨hgd,hJ,t,⟨T,hb⟩,ho,hbl,hC⟩ hD
  refine⟨t,by rw[cell_of hb];rfl,marks_one hD fun w' hu=>⟨t,xs,rfl,hxs,hGl _ hgd,?_,?_,fun j hj=>by have:=hbl j hj;omega⟩⟩
  ·refine ho.ch hu.ch fun j hj e=>?_
   have:=hbl j hj;omega
  ·exact⟨hC.rest.trans hu.rest,by rw[hu.size];exact hC.size,fun i hi _=>by rw[hu.old i (by omega)];exact hC.old i hi (by omega)⟩
theorem collect_of{w:World}{gf:Nat}{lb:Array Value}{Fin:List Int->Prop}(h:IntIt gf lb w Fin):
  Cw 111 #[.func (.func gf) #[] lb] w fun v w'=>∃t,∃xs:List Int,v=slV t/\Fin xs/\xs.length<=1000000/\OwS w' t 1 (xs.map iv)/\Ext w w'/\∀j∈blk t,w.heap.size<=j:=by
 refine F111_ok (gf,lb) w _ ((appendSeq_of h).use ?_)
 rintro _ w2 ⟨t,xs,rfl,h⟩
 exact⟨t,rfl,t,xs,rfl,h⟩
theorem sorted_of{w:World}{gf:Nat}{lb:Array Value}{Fin:List Int->Prop}(h:IntIt gf lb w Fin):
  Cw 64 #[.func (.func gf) #[] lb] w fun v w'=>∃t,∃xs ys:List Int,v=slV t/\Fin ys/\xs.Perm ys/\ys.length<=1000000/\xs.Pairwise (· <=·)/\OwS w' t 1 (xs.map iv)/\Ext w w'/\∀j∈blk t,w.heap.size<=j:=by
 refine F64_ok (gf,lb) w _ ((collect_of h).use ?_)
 rintro _ w2 ⟨t,ys,rfl,hf,hl,ho,e2,hb⟩
 refine⟨t,rfl,(c112 ho hl).use ?_⟩
 rintro _ w5 ⟨rfl,xs,hp,hs,ho2,hC⟩
 exact⟨(),rfl,t,xs,ys,rfl,hf,hp,hl,hs,ho2,e2.then hC fun i hi h=>by have:=hb i h;omega,hb⟩
theorem keysI_stb{n b1:Nat}{p:MO}{W W':World}(h:KeysI b1 p W)(hS:Stb n W W'):KeysI b1 p W':=by
 obtain⟨⟨T,hT⟩,h⟩:=h
 refine⟨⟨T,hS.keep _ _ hT rfl⟩,?_⟩
 match p,h with
 | none,_=>trivial
 | some (r,es,ck),h=>exact hS.keep _ _ h rfl
theorem keysI_ch{F:Nat->Prop}{b1:Nat}{p:MO}{W W':World}(h:KeysI b1 p W)(hc:Ch F W W')(h1:¬F b1)(h2:∀r es ck,p=some (r,es,ck)->¬F r):KeysI b1 p W':=by
 obtain⟨⟨T,hT⟩,h⟩:=h
 refine⟨⟨T,hc.at hT h1⟩,?_⟩
 match p,h,h2 with
 | none,_,_=>trivial
 | some (r,es,ck),h,h2=>exact hc.at h (h2 _ _ _ rfl)
theorem keysIt{g b1:Nat}(hen:Entr Tryz.prog g)(hF:∀l W R,KeysF Tryz.prog l b1 W R->Cw g #[.func (.yield l) #[] #[],.pointer (some ⟨b1,0,none⟩)] W R){w:World}{p:MO}{ks:List Int}(hI:KeysI b1 p w)(hks:KeysE p ks)(hl:ks.length<=1000000):
  IntIt g #[.pointer (some ⟨b1,0,none⟩)] w fun xs=>xs.Perm ks:=by
 have hb1:b1<w.heap.size:=by obtain⟨⟨T,hT⟩,_⟩:=hI;exact heap_lt hT
 have hr1:∀r es ck,p=some (r,es,ck)->r<w.heap.size:=fun r es ck e=>by subst e;exact heap_lt hI.2
 refine⟨_,_,fun pre=>pre.Nodup/\∀x∈pre,x∈ks,keys_iter hen hF hks,hI,fun n W W'=>keysI_stb,fun F W W' h hc hF=>keysI_ch h hc (fun h=>by have:=hF _ h;omega) (fun r es ck e h=>by have:=hF _ h;have:=hr1 _ _ _ e;omega),⟨.nil,by simp⟩,?_,?_⟩
 ·rintro pre x ⟨hnd,hsub⟩ ⟨hxk,hxp⟩
  refine⟨?_,fun a ha=>?_⟩
  ·rw[List.nodup_append];exact⟨hnd,by simp,fun a ha b hb=>by rw[List.mem_singleton.1 hb];exact fun e=>hxp (e ▸ ha)⟩
  ·rcases List.mem_append.1 ha with h|h
   ·exact hsub a h
   ·rw[List.mem_singleton.1 h];exact hxk
 ·rintro l ⟨hnd,hsub⟩
  exact Nat.le_trans (nodup_len hnd hsub) hl
theorem rdI{w:World}{t:Sl}{l:List Int}(h:Rd w t 1 (l.map iv)):t.n=l.length:=by have:=h.len1;rw[List.length_map] at this;exact this
theorem rdI_get{w:World}{t:Sl}{l:List Int}(h:Rd w t 1 (l.map iv)){i:Nat}{x:Int}(hx:l[i]? =some x):∃a o,t.p=some ⟨a,o,none⟩/\w.cell? ⟨a,o+i,none⟩=some (iv x):=
 h.elem1 (i:=i) (v:=iv x) (by rw[List.getElem?_map,hx];rfl)
theorem nodup_le{α:Type}[DecidableEq α]:∀ {a b:List α},a.Nodup->(∀x∈a,x∈b)->a.length<=b.length
 | [],_,_,_=>Nat.zero_le _
 | x::a,b,hn,h=>by
  obtain⟨h1,h2⟩:=List.nodup_cons.1 hn
  have hx:=h x (by simp)
  have:=nodup_le (a:=a) (b:=b.erase x) h2 fun y hy=>by
   have hne:y≠x:=fun e=>h1 (by rw[<-e];exact hy)
   exact(List.mem_erase_of_ne hne).2 (h y (by simp[hy]))
  rw[List.length_erase_of_mem hx] at this
  have:=List.length_pos_of_mem hx
  simp only[List.length_cons];omega
theorem pickL{α β:Type}{Q:α->β->Prop}:∀ {l:List α},(∀x∈l,∃n,Q x n)->∃ns:List β,ns.length=l.length/\∀(i:Nat) x n,l[i]? =some x->ns[i]? =some n->Q x n
 | [],_=>⟨[],rfl,by simp⟩
 | x::l,h=>by
  obtain⟨n,hn⟩:=h x (by simp)
  obtain⟨ns,h1,h2⟩:=pickL (l:=l) fun y hy=>h y (List.mem_cons_of_mem _ hy)
  refine⟨n::ns,by simp[h1],fun i y m hy hm=>?_⟩
  cases i with
  | zero=>cases hy;cases hm;exact hn
  | succ i=>exact h2 i y m hy hm
theorem rep_list{A:Nat->Prop}{w:World}{e:Ty}{δ:Type}{f:δ->List Value}{Q:e.den->δ->Prop}{l:List e.den}{cs:List Value}(h:rep A w (.sl e) l cs)(hp:∀x∈l,∀c,rep A w e x c->∃n,c=f n/\Q x n):
  ∃(s:Sl)(ns:List δ),cs=[slV s]/\Rd w s e.sz (ns.flatMap f)/\ns.length=l.length/\s.n=l.length/\s.n<=s.c/\s.n<=maxLen/\∀(i:Nat) x n,l[i]? =some x->ns[i]? =some n->Q x n:=by
 obtain⟨s,rfl,h1,h2,h3,h4,css,h5,h6,h7⟩:=h
 have hz:∀i(hi:i<l.length),∃n,css[i]? =some (f n)/\Q l[i] n:=fun i hi=>by
  have hc:css[i]? =some (css[i]'(by omega)):=List.getElem?_eq_getElem _
  obtain⟨n,hn,hq⟩:=hp l[i] (List.getElem_mem _) _ (h6 i _ _ hc (List.getElem?_eq_getElem hi))
  exact⟨n,by rw[hc,hn],hq⟩
 obtain⟨ns,hl,hq⟩:=pickL (l:=List.range l.length) (Q:=fun i n=>css[i]? =some (f n)/\∀x,l[i]? =some x->Q x n) fun i hi=>by
  have hi:=List.mem_range.1 hi
  obtain⟨n,a,b⟩:=hz i hi
  exact⟨n,a,fun x hx=>by rw[List.getElem?_eq_getElem hi] at hx;cases hx;exact b⟩
 rw[List.length_range] at hl
 refine⟨s,ns,rfl,?_,hl,h1,h2,h3,fun i x n hx hn=>?_⟩
 ·have:css=ns.map f:=by
   apply List.ext_getElem?
   intro i
   by_cases hi:i<l.length
   ·rw[List.getElem?_map,List.getElem?_eq_getElem (show i<ns.length by omega)]
    exact(hq i i _ (List.getElem?_range hi) (List.getElem?_eq_getElem (by omega))).1
   ·rw[List.getElem?_eq_none (by omega),List.getElem?_eq_none (by simp;omega)]
  rw[List.flatMap_def,<-this];exact h7
 ·have hi:=(List.getElem?_eq_some_iff.1 hx).1
  exact(hq i i n (List.getElem?_range hi) hn).2 x hx
theorem ext_eq{α:Type}{l m:List α}(hl:m.length=l.length)(h:∀(i:Nat) x n,l[i]? =some x->m[i]? =some n->n=x):m=l:=by
 apply List.ext_getElem?
 intro i
 by_cases hi:i<l.length
 ·have:=h i _ _ (List.getElem?_eq_getElem hi) (List.getElem?_eq_getElem (show i<m.length by omega))
  rw[List.getElem?_eq_getElem hi,List.getElem?_eq_getElem (show i<m.length by omega),this]
 ·rw[List.getElem?_eq_none (by omega),List.getElem?_eq_none (by omega)]
theorem rep_ints{A:Nat->Prop}{w:World}{l:List (Ty.int .i64).den}{cs:List Value}(h:rep A w (.sl (.int .i64)) l cs):
  ∃s:Sl,cs=[slV s]/\Rd w s 1 (l.map iv)/\s.n<=s.c/\s.n<=maxLen/\∀x∈l, -9223372036854775808<=x/\x<=9223372036854775807:=by
 have hr:∀x∈l, -9223372036854775808<=x/\x<=9223372036854775807:=by
  obtain⟨s,rfl,h1,h2,h3,h4,css,h5,h6,h7⟩:=h
  intro x hx
  obtain⟨i,hi,rfl⟩:=List.getElem_of_mem hx
  exact(h6 i _ _ (List.getElem?_eq_getElem (by omega)) (List.getElem?_eq_getElem hi)).2
 obtain⟨s,ns,h1,h2,h3,h4,h5,h6,h7⟩:=rep_list (f:=fun x:Int=>[iv x]) (Q:=fun x n=>n=x) h fun x hx c hc=>⟨x,hc.1,rfl⟩
 have:=ext_eq h3 h7
 subst this
 refine⟨s,h1,?_,h5,h6,hr⟩
 rw[show ns.map iv=ns.flatMap fun x:Int=>[iv x] from List.map_eq_flatMap];exact h2
theorem rep_plain{A:Nat->Prop}{w:World}{e:Ty}{f:e.den->List Value}{l:List e.den}{cs:List Value}(h:rep A w (.sl e) l cs)(hp:∀x∈l,∀c,rep A w e x c->c=f x):
  ∃s:Sl,cs=[slV s]/\Rd w s e.sz (l.flatMap f)/\s.n=l.length/\s.n<=s.c/\s.n<=maxLen:=by
 obtain⟨s,ns,h1,h2,h3,h4,h5,h6,h7⟩:=rep_list (f:=f) (Q:=fun x n=>n=x) h fun x hx c hc=>⟨x,hp x hx c hc,rfl⟩
 have:=ext_eq h3 h7
 subst this
 exact⟨s,h1,h2,h4,h5,h6⟩
abbrev KeyD:=Int×Int
abbrev InsD:=Int×Int×Int×Int×KeyD×KeyD×Int
abbrev SpTD:=KeyD×KeyD×Bool
abbrev tyI:Ty:=.int .i64
abbrev tyKey:Ty:=.pair tyI tyI
abbrev tyIns:Ty:=.pair tyI (.pair tyI (.pair tyI (.pair tyI (.pair tyKey (.pair tyKey tyI)))))
abbrev tySpT:Ty:=.pair tyKey (.pair tyKey .bool)
abbrev tyStp:Ty:=.pair (.sl tyIns) (.sl tySpT)
def InsD.a(x:InsD):Int:=x.2.1
def InsD.b(x:InsD):Int:=x.2.2.1
def InsD.c(x:InsD):Int:=x.2.2.2.1
def InsD.K(x:InsD):KeyD:=x.2.2.2.2.1
def InsD.L(x:InsD):KeyD:=x.2.2.2.2.2.1
def InsD.X(x:InsD):Int:=x.2.2.2.2.2.2
def KeyOk(k:KeyD)(n:Int):Prop:= -1<=k.1/\k.1<n/\0<=k.2/\k.2<=900
structure InsOk(x:InsD)(n:Int):Prop where
 o1:1<=x.1
 o8:x.1<=8
 a0:0<=x.2.1
 a3:x.2.1<=3
 da:x.1=3->x.2.1=0
 xx:x.1≠5->x.1≠8->x.2.2.2.2.2.2=0
 bc:x.1≠6->x.1≠7->x.2.2.1=0/\x.2.2.2.1=0
 kk:4<x.1->x.2.2.2.2.1.1=0/\x.2.2.2.2.1.2=0
 ll:x.1≠4->x.2.2.2.2.2.1.1=0/\x.2.2.2.2.2.1.2=0
 b3:x.1=6\/x.1=7->(0<=x.2.2.1/\x.2.2.1<=3)/\0<=x.2.2.2.1/\x.2.2.2.1<=3
 ko:x.1<=4->KeyOk x.2.2.2.2.1 n
 lo:x.1=4->KeyOk x.2.2.2.2.2.1 n
structure CodeOk(l:List InsD)(n:Int):Prop where
 n0:0<=n
 n3:n<=3
 l1:1<=l.length
 l8:l.length<=8
 all:∀x∈l,InsOk x n
structure FootOk(l:List SpTD)(n:Int):Prop where
 n0:0<=n
 n3:n<=3
 l4:l.length<=4
 all:∀s∈l,KeyOk s.1 n/\KeyOk s.2.1 n
abbrev insC(x:InsD):List Value:=[.int .i64 x.1,.int .i64 x.2.1,.int .i64 x.2.2.1,.int .i64 x.2.2.2.1,.int .i64 x.2.2.2.2.1.1,.int .i64 x.2.2.2.2.1.2,.int .i64 x.2.2.2.2.2.1.1,.int .i64 x.2.2.2.2.2.1.2,.int .i64 x.2.2.2.2.2.2]
abbrev keyC(x:KeyD):List Value:=[.int .i64 x.1,.int .i64 x.2]
abbrev spTC(x:SpTD):List Value:=[.int .i64 x.1.1,.int .i64 x.1.2,.int .i64 x.2.1.1,.int .i64 x.2.1.2,.bool x.2.2]
theorem insC_len(x:InsD):(insC x).length=9:=rfl
theorem spTC_len(x:SpTD):(spTC x).length=5:=rfl
section
variable {A:Nat->Prop} {w:World}
theorem rep_key{x:KeyD}{cs:List Value}(h:rep A w tyKey x cs):cs=keyC x:=by
 obtain⟨c,d,rfl,⟨rfl,_⟩,rfl,_⟩:=h;rfl
theorem rep_ins{x:InsD}{cs:List Value}(h:rep A w tyIns x cs):cs=insC x:=by
 obtain⟨c1,d1,rfl,⟨rfl,_⟩,c2,d2,rfl,⟨rfl,_⟩,c3,d3,rfl,⟨rfl,_⟩,c4,d4,rfl,⟨rfl,_⟩,c5,d5,rfl,h5,c6,d6,rfl,h6,rfl,_⟩:=h
 have h5:=rep_key (x:=x.2.2.2.2.1) h5
 have h6:=rep_key (x:=x.2.2.2.2.2.1) h6
 subst h5;subst h6;rfl
theorem rep_spT{x:SpTD}{cs:List Value}(h:rep A w tySpT x cs):cs=spTC x:=by
 obtain⟨c1,d1,rfl,h1,c2,d2,rfl,h2,h3⟩:=h
 have h1:=rep_key (x:=x.1) h1
 have h2:=rep_key (x:=x.2.1) h2
 have h3:d2=[.bool x.2.2]:=h3
 subst h1;subst h2;subst h3;rfl
end
def F124j1(t0:Sl)(t1:Nat×Array Value)(R:RV)(y1:Nat->Int->World->Prop)(b3:Nat)(n4:Int)(w5:World):Prop:=IfB (decide (n4<(t0.n:Int))) (Qx t0.1 n4 (t0.2:Int) fun b8 b9=>Qi w5 b8 (b9+n4.toNat) fun n10=>Cx t1.1 { toList:=Qz n10::t1.snd.1 } w5 fun v11 w12=>∃t13:Bool,v11=Value.bool t13/\IfB t13 (R (Qz n4) w12) (([]:List Df)=[]/\∃b14:Nat,b14<b3/\y1 b14 (IntKind.i64.wrap (n4+1)) w12)) (R (Qz (-1:Int)) w5)
def F124(t0:Sl)(t1:Nat×Array Value)(w:World)(R:RV):Prop:=Ql (α:=Int) 0 w fun y1 b3 n4 w5=>(F124j1 t0 t1 R y1 b3 n4 w5)
theorem F124_ok(t0:Sl)(t1:Nat×Array Value)(w:World)(R:RV)(h:F124 t0 t1 w R):Cw 124 #[Qy t0,Value.func (Fn.func t1.1) #[] t1.2] w R:=
 ckF Tryz.func124 (nd (.node (nd (.loop [(8,oi)] (rg [4,5,8,18]) .nil)) .nil)) h (by kernel_rfl) (by kernel_rfl)
theorem c124{w:World}{t:Sl}{xs:List Int}{t1:Nat×Array Value}{q:Int->Bool}(h:Rd w t 1 (xs.map iv))(hl:xs.length<=1000000)
  (hq:∀(x:Int)(W:World),x∈xs->Ext w W->∀R':RV,(∀w',Ext W w'->R' (.bool (q x)) w')->Cx t1.1 { toList:=iv x::t1.2.toList } W R'):
  Cw 124 #[slV t,.func (.func t1.1) #[] t1.2] w fun v w'=>v=iv (idxV (xs.findIdx? q))/\Ext w w':=by
 refine F124_ok t t1 w _ ?_
 have hn:=rdI h
 have e:F124 t t1 w (fun v w'=>v=iv (idxV (xs.findIdx? q))/\Ext w w')=IndexF Tryz.prog (fun W b o i (x:Int)=>W.cell? ⟨b,o+i,none⟩=some (iv x)) iv t t1 w (fun v w'=>v=iv (idxV (xs.findIdx? q))/\Ext w w'):=rfl
 rw[e]
 refine IndexF_of xs id q hn (by omega) (fun i x W hx e=>rdI_get (h.ext e) hx) (fun i x W hx e R' hR=>hq x W (List.mem_of_getElem? hx) e R' hR) fun w' e=>⟨rfl,e⟩
theorem F128_ok(t0:Int)(w:World)(R:RV)(h:IfB (decide (0<=t0)) (R (Value.bool (decide (t0<4))) w) (R (Value.bool false) w)):Cw 128 #[Qz t0] w R:=
 ckF Tryz.func128 .nil h (by kernel_rfl) (by kernel_rfl)
theorem F90_ok(t0:Int×Int)(t1:Int)(w:World)(R:RV)(h:AllocP w (Obj.cells #[Qz t0.1,Qz t0.2] 64) fun b1 w2=>Qi w2 b1 (0+0) fun n3=>IfB (decide ((-1:Int)<=n3)) (Qi w2 b1 (0+0) fun n4=>IfB (decide (n4<t1)) (Qi w2 b1 (0+1) fun n5=>IfB (decide (0<=n5)) (Qi w2 b1 (0+1) fun n6=>R (Value.bool (decide (n6<=900))) w2) (R (Value.bool false) w2)) (R (Value.bool false) w2)) (R (Value.bool false) w2)):Cw 90 #[Value.agg #[Qz t0.1,Qz t0.2],Qz t1] w R:=
 ckF Tryz.func90 .nil h (by kernel_rfl) (by kernel_rfl)
def F126k4(w9:World)(b1:Nat)(b7:Nat)(b3:Nat)(R:RV):Prop:=∃(x11:Int×Int),CellsAt w9 b1 (0+4) [Qz x11.1,Qz x11.2]/\#[Qz x11.1,Qz x11.2].size=2/\StoreP w9 b7 (0+4) [Qz x11.1,Qz x11.2] fun w12=>∃(x13:Int×Int×Int×Int×Int×Int×Int×Int×Int),CellsAt w12 b7 0 (lC66 x13)/\(lC66 x13).toArray.size=9/\StoreP w12 b3 0 (lC66 x13) fun w14=>∃(x15:Int×Int×Int×Int×Int×Int×Int×Int×Int),CellsAt w14 b3 0 (lC66 x15)/\R (Value.tuple #[Value.agg (lC66 x15).toArray,Value.bool true]) w14
def F126k7(w9:World)(b1:Nat)(b7:Nat)(b3:Nat)(R:RV):Prop:=∃(x22:Int×Int),CellsAt w9.drew b1 (0+4) [Qz x22.1,Qz x22.2]/\∃(x23:Int×Int),CellsAt w9.drew b1 (0+6) [Qz x23.1,Qz x23.2]/\#[Qz x22.1,Qz x22.2].size=2/\StoreP w9.drew b7 (0+4) [Qz x22.1,Qz x22.2] fun w24=>CellsAt w24 b1 (0+6) [Qz x23.1,Qz x23.2]/\#[Qz x23.1,Qz x23.2].size=2/\StoreP w24 b7 (0+6) [Qz x23.1,Qz x23.2] fun w25=>∃(x26:Int×Int×Int×Int×Int×Int×Int×Int×Int),CellsAt w25 b7 0 (lC66 x26)/\(lC66 x26).toArray.size=9/\StoreP w25 b3 0 (lC66 x26) fun w27=>∃(x28:Int×Int×Int×Int×Int×Int×Int×Int×Int),CellsAt w27 b3 0 (lC66 x28)/\R (Value.tuple #[Value.agg (lC66 x28).toArray,Value.bool true]) w27
def F126k5(w9:World)(b1:Nat)(b7:Nat)(b3:Nat)(R:RV):Prop:=Qi w9 b1 (0+8) fun n29=>#[Qz n29].size=1/\StoreP w9 b7 (0+8) [Qz n29] fun w30=>∃(x31:Int×Int×Int×Int×Int×Int×Int×Int×Int),CellsAt w30 b7 0 (lC66 x31)/\(lC66 x31).toArray.size=9/\StoreP w30 b3 0 (lC66 x31) fun w32=>∃(x33:Int×Int×Int×Int×Int×Int×Int×Int×Int),CellsAt w32 b3 0 (lC66 x33)/\R (Value.tuple #[Value.agg (lC66 x33).toArray,Value.bool true]) w32
def F126k3(w9:World)(b1:Nat)(b7:Nat)(b3:Nat)(R:RV):Prop:=Qi w9.drew b1 (0+2) fun n34=>Qi w9.drew b1 (0+3) fun n35=>#[Qz n34].size=1/\StoreP w9.drew b7 (0+2) [Qz n34] fun w36=>w36.cell? ⟨b1,0+3,none⟩=some (Qz n35)/\#[Qz n35].size=1/\StoreP w36 b7 (0+3) [Qz n35] fun w37=>∃(x38:Int×Int×Int×Int×Int×Int×Int×Int×Int),CellsAt w37 b7 0 (lC66 x38)/\(lC66 x38).toArray.size=9/\StoreP w37 b3 0 (lC66 x38) fun w39=>∃(x40:Int×Int×Int×Int×Int×Int×Int×Int×Int),CellsAt w39 b3 0 (lC66 x40)/\R (Value.tuple #[Value.agg (lC66 x40).toArray,Value.bool true]) w39
def F126k6(w9:World)(b7:Nat)(b3:Nat)(R:RV):Prop:=∃(x41:Int×Int×Int×Int×Int×Int×Int×Int×Int),CellsAt w9 b7 0 (lC66 x41)/\(lC66 x41).toArray.size=9/\StoreP w9 b3 0 (lC66 x41) fun w42=>∃(x43:Int×Int×Int×Int×Int×Int×Int×Int×Int),CellsAt w42 b3 0 (lC66 x43)/\R (Value.tuple #[Value.agg (lC66 x43).toArray,Value.bool false]) w42
def F126k2(n10:Int)(w9:World)(b1:Nat)(b7:Nat)(b3:Nat)(R:RV):Prop:=IfB (n10 == 6) (IfB (n10 == 6) (F126k3 w9 b1 b7 b3 R) (F126k6 w9 b7 b3 R)) (IfB (n10 == 7) (F126k3 w9 b1 b7 b3 R) (F126k6 w9 b7 b3 R))
def F126k1(n10:Int)(w9:World)(b1:Nat)(b7:Nat)(b3:Nat)(R:RV):Prop:=IfB (n10 == 3) (∃(x16:Int×Int),CellsAt w9.drew b1 (0+4) [Qz x16.1,Qz x16.2]/\#[Qz 0].size=1/\StoreP w9.drew b7 (0+1) [Qz 0] fun w17=>CellsAt w17 b1 (0+4) [Qz x16.1,Qz x16.2]/\#[Qz x16.1,Qz x16.2].size=2/\StoreP w17 b7 (0+4) [Qz x16.1,Qz x16.2] fun w18=>∃(x19:Int×Int×Int×Int×Int×Int×Int×Int×Int),CellsAt w18 b7 0 (lC66 x19)/\(lC66 x19).toArray.size=9/\StoreP w18 b3 0 (lC66 x19) fun w20=>∃(x21:Int×Int×Int×Int×Int×Int×Int×Int×Int),CellsAt w20 b3 0 (lC66 x21)/\R (Value.tuple #[Value.agg (lC66 x21).toArray,Value.bool true]) w20) (IfB (n10 == 4) (F126k7 w9 b1 b7 b3 R) (IfB (n10 == 5) (IfB (n10 == 5) (F126k5 w9 b1 b7 b3 R) (F126k2 n10 w9 b1 b7 b3 R)) (IfB (n10 == 8) (F126k5 w9 b1 b7 b3 R) (F126k2 n10 w9 b1 b7 b3 R))))
theorem F126_ok(t0:Int×Int×Int×Int×Int×Int×Int×Int×Int)(w:World)(R:RV)(h:AllocP w (Obj.cells (lC66 t0).toArray 66) fun b1 w2=>AllocP w2 (Obj.cells #[Qz 0,Qz 0,Qz 0,Qz 0,Qz 0,Qz 0,Qz 0,Qz 0,Qz 0] 66) fun b3 w4=>Qi w4 b1 (0+0) fun n5=>Qi w4 b1 (0+1) fun n6=>AllocP w4 (Obj.cells #[Qz 0,Qz 0,Qz 0,Qz 0,Qz 0,Qz 0,Qz 0,Qz 0,Qz 0] 66) fun b7 w8=>#[Qz n5,Qz n6,Qz 0,Qz 0,Qz 0,Qz 0,Qz 0,Qz 0,Qz 0].size=9/\StoreP w8 b7 0 [Qz n5,Qz n6,Qz 0,Qz 0,Qz 0,Qz 0,Qz 0,Qz 0,Qz 0] fun w9=>Qi w9 b1 (0+0) fun n10=>IfB (n10 == 1) (IfB (n10 == 1) (F126k4 w9 b1 b7 b3 R) (F126k1 n10 w9 b1 b7 b3 R)) (IfB (n10 == 2) (F126k4 w9 b1 b7 b3 R) (F126k1 n10 w9 b1 b7 b3 R))):Cw 126 #[(.agg (lC66 t0).toArray)] w R:=
 ckF Tryz.func126 (nd (nd (.node (nd (nd (nd (nd (.node (.draw (sts [0,1,2] (.ac 3 [1,0] (.st 4 (.ac 5 [] .fin .non)) .non))) (nd (.node (.draw (sts [0,1,2,3,4] (.ac 5 [3,2] (.st 6 (.ac 7 [] .fin .non)) .non))) (nd (nd (nd (.node (.draw (sts [0,1,2,3,4] (.ac 5 [3,2] (.st 6 (.ac 7 [] .fin .non)) .non))) .nil))))))))))) .nil))) h (by kernel_rfl) (by kernel_rfl)
def F130k1(n3:Int)(w2:World)(b1:Nat)(R:RV):Prop:=IfB (n3 == 4) (∃(x7:Int×Int),CellsAt w2 b1 (0+4) [Qz x7.1,Qz x7.2]/\∃(x8:Int×Int),CellsAt w2 b1 (0+6) [Qz x8.1,Qz x8.2]/\2*2<=16777216/\AllocP w2 (Obj.cells #[Qz x7.1,Qz x7.2,Qz x8.1,Qz x8.2] 64) fun b9 w10=>R (Value.slice (some ⟨b9,0,none⟩) 2 2) w10) (R (Value.slice none 0 0) w2)
theorem F130_ok(t0:Int×Int×Int×Int×Int×Int×Int×Int×Int)(w:World)(R:RV)(h:AllocP w (Obj.cells (lC66 t0).toArray 66) fun b1 w2=>Qi w2 b1 (0+0) fun n3=>IfB (n3 == 1) (IfB (n3 == 1) (∃(x4:Int×Int),CellsAt w2 b1 (0+4) [Qz x4.1,Qz x4.2]/\1*2<=16777216/\AllocP w2 (Obj.cells #[Qz x4.1,Qz x4.2] 64) fun b5 w6=>R (Value.slice (some ⟨b5,0,none⟩) 1 1) w6) (F130k1 n3 w2 b1 R)) (IfB (n3 == 2) (IfB (n3 == 2) (∃(x11:Int×Int),CellsAt w2 b1 (0+4) [Qz x11.1,Qz x11.2]/\1*2<=16777216/\AllocP w2 (Obj.cells #[Qz x11.1,Qz x11.2] 64) fun b12 w13=>R (Value.slice (some ⟨b12,0,none⟩) 1 1) w13) (F130k1 n3 w2 b1 R)) (IfB (n3 == 3) (∃(x18:Int×Int),CellsAt w2 b1 (0+4) [Qz x18.1,Qz x18.2]/\1*2<=16777216/\AllocP w2 (Obj.cells #[Qz x18.1,Qz x18.2] 64) fun b19 w20=>R (Value.slice (some ⟨b19,0,none⟩) 1 1) w20) (F130k1 n3 w2 b1 R)))):Cw 130 #[(.agg (lC66 t0).toArray)] w R:=
 ckF Tryz.func130 .nil h (by kernel_rfl) (by kernel_rfl)
def F94k1(w11:World)(b1:Nat)(b9:Nat)(b3:Nat)(R:RV):Prop:=∃(x12:Int×Int×Int×Int×Int×Int×Int×Int×Int),CellsAt w11 b1 0 (lC66 x12)/\∃(x13:Int×Int×Int×Int×Int×Int×Int×Int×Int),CellsAt w11 b9 0 (lC66 x13)/\∃t14:Bool,EqAt Tryz.prog 66 (Value.agg (lC66 x12).toArray) (Value.agg (lC66 x13).toArray) t14/\IfB t14 (Qi w11 b1 (0+1) fun n15=>Qv' 128 #[Qz n15] w11 fun t18 w17=>IfB t18 (Qi w17 b1 (0+2) fun n19=>Qv' 128 #[Qz n19] w17 fun t22 w21=>IfB t22 (Qi w21 b1 (0+3) fun n23=>Qv' 128 #[Qz n23] w21 fun t26 w25=>IfB t26 (∃(x27:Int×Int×Int×Int×Int×Int×Int×Int×Int),CellsAt w25 b1 0 (lC66 x27)/\Qu' 130 #[Value.agg (lC66 x27).toArray] w25 fun s30 w29=>Qv' 129 #[Qy s30,Value.func (Fn.func 127) #[] #[Value.pointer (some ⟨b3,0,none⟩)]] w29 fun t33 w32=>R (Value.bool !t33) w32) (R (Value.bool false) w25)) (R (Value.bool false) w21)) (R (Value.bool false) w17)) (R (Value.bool false) w11)
theorem F94_ok(t0:Int×Int×Int×Int×Int×Int×Int×Int×Int)(t1:Int)(w:World)(R:RV)(h:AllocP w (Obj.cells (lC66 t0).toArray 66) fun b1 w2=>AllocP w2 (Obj.cells #[Qz t1] 3) fun b3 w4=>∃(x5:Int×Int×Int×Int×Int×Int×Int×Int×Int),CellsAt w4 b1 0 (lC66 x5)/\Cx 126 #[Value.agg (lC66 x5).toArray] w4 fun v6 w7=>∃(x8:(Int×Int×Int×Int×Int×Int×Int×Int×Int)×Bool),v6=Value.tuple #[Value.agg (lC66 x8.fst).toArray,Value.bool x8.2]/\AllocP w7 (Obj.cells #[Qz 0,Qz 0,Qz 0,Qz 0,Qz 0,Qz 0,Qz 0,Qz 0,Qz 0] 66) fun b9 w10=>(lC66 x8.fst).toArray.size=9/\StoreP w10 b9 0 (lC66 x8.fst) fun w11=>IfB x8.2 (F94k1 w11 b1 b9 b3 R) (R (Value.bool false) w11)):Cw 94 #[(.agg (lC66 t0).toArray),Qz t1] w R:=
 ckF Tryz.func94 .nil h (by kernel_rfl) (by kernel_rfl)
theorem F127_ok(t0:Int×Int)(t1:Nat)(w:World)(R:RV)(h:AllocP w (Obj.cells #[Qz t0.1,Qz t0.2] 64) fun b1 w2=>∃(x3:Int×Int),CellsAt w2 b1 0 [Qz x3.1,Qz x3.2]/\∃n4:Int,w2.cell? ⟨t1,0,none⟩=some (Qz n4)/\Qv' 90 #[Value.agg #[Qz x3.1,Qz x3.2],Qz n4] w2 fun t7 w6=>R (Value.bool !t7) w6):Cw 127 #[Value.agg #[Qz t0.1,Qz t0.2],Value.pointer (some ⟨t1,0,none⟩)] w R:=
 ckF Tryz.func127 .nil h (by kernel_rfl) (by kernel_rfl)
theorem F52_ok(t0:Sl)(t1:Int)(w:World)(R:RV)(h:AllocP w (Obj.cells #[Qz t1] 3) fun b1 w2=>Qi w2 b1 0 fun n3=>IfB (decide (n3<0)) (R (Value.bool false) w2) (Qi w2 b1 0 fun n4=>IfB (decide (3<n4)) (R (Value.bool false) w2) (IfB (decide ((t0.n:Int)<1)) (R (Value.bool false) w2) (IfB (decide (8<(t0.n:Int))) (R (Value.bool false) w2) (Qv' 92 #[Qy t0,Value.func (Fn.func 93) #[] #[Value.pointer (some ⟨b1,0,none⟩)]] w2 fun t7 w6=>R (Value.bool !t7) w6))))):Cw 52 #[Qy t0,Qz t1] w R:=
 ckF Tryz.func52 .nil h (by kernel_rfl) (by kernel_rfl)
theorem F93_ok(t0:Int×Int×Int×Int×Int×Int×Int×Int×Int)(t1:Nat)(w:World)(R:RV)(h:AllocP w (Obj.cells (lC66 t0).toArray 66) fun b1 w2=>∃(x3:Int×Int×Int×Int×Int×Int×Int×Int×Int),CellsAt w2 b1 0 (lC66 x3)/\∃n4:Int,w2.cell? ⟨t1,0,none⟩=some (Qz n4)/\Qv' 94 #[Value.agg (lC66 x3).toArray,Qz n4] w2 fun t7 w6=>R (Value.bool !t7) w6):Cw 93 #[(.agg (lC66 t0).toArray),Value.pointer (some ⟨t1,0,none⟩)] w R:=
 ckF Tryz.func93 .nil h (by kernel_rfl) (by kernel_rfl)
theorem F51_ok(t0:Int×Int)(t1:Sl)(w:World)(R:RV)(h:AllocP w (Obj.cells #[Qz t0.1,Qz t0.2] 64) fun b1 w2=>∃(x3:Int×Int),CellsAt w2 b1 0 [Qz x3.1,Qz x3.2]/\Qv' 90 #[Value.agg #[Qz x3.1,Qz x3.2],Qz (t1.2:Int)] w2 fun t6 w5=>IfB (!t6) (R (Value.tuple #[Qz 0,Value.bool false]) w5) (IfB (decide (3<(t1.n:Int))) (R (Value.tuple #[Qz 0,Value.bool false]) w5) (Qv' 91 #[Qy t1,Value.func (Fn.func 89) #[] #[]] w5 fun t9 w8=>IfB t9 (R (Value.tuple #[Qz 0,Value.bool false]) w8) (Qi w8 b1 (0+0) fun n10=>IfB (decide (n10<0)) (Qi w8 b1 (0+1) fun n11=>R (Value.tuple #[Qz n11,Value.bool true]) w8) (Qi w8.drew b1 (0+1) fun n12=>Qi w8.drew b1 (0+0) fun n13=>Qx t1.1 n13 (t1.2:Int) fun b14 b15=>Qi w8.drew b14 (b15+n13.toNat) fun n16=>R (Value.tuple #[Qz (IntKind.i64.wrap (n12+n16)),Value.bool true]) w8.drew))))):Cw 51 #[Value.agg #[Qz t0.1,Qz t0.2],Qy t1] w R:=
 ckF Tryz.func51 (nd (nd (nd (nd (.node (.draw (sts [0,1,2,3,4,5,6,7,8,9] .fin)) .nil))))) h (by kernel_rfl) (by kernel_rfl)
theorem F89_ok(t0:Int)(w:World)(R:RV)(h:IfB (decide (t0<0)) (R (Value.bool true) w) (R (Value.bool (decide (99<t0))) w)):Cw 89 #[Qz t0] w R:=
 ckF Tryz.func89 .nil h (by kernel_rfl) (by kernel_rfl)
theorem F92_ok(t0:Sl)(t1:Nat×Array Value)(w:World)(R:RV)(h:Cx 125 #[Qy t0,Value.func (Fn.func t1.1) #[] t1.2] w fun v1 w2=>∃n3:Int,v1=Qz n3/\R (Value.bool (decide (0<=n3))) w2):Cw 92 #[Qy t0,Value.func (Fn.func t1.1) #[] t1.2] w R:=
 ckF Tryz.func92 .nil h (by kernel_rfl) (by kernel_rfl)
def F125j1(t0:Sl)(t1:Nat×Array Value)(R:RV)(y1:Nat->Int->World->Prop)(b3:Nat)(n4:Int)(w5:World):Prop:=IfB (decide (n4<(t0.n:Int))) (Qx t0.1 n4 (t0.2:Int) fun b8 b9=>∃(x10:Int×Int×Int×Int×Int×Int×Int×Int×Int),CellsAt w5 b8 (b9+n4.toNat*9) (lC66 x10)/\Cx t1.1 { toList:=(.agg (lC66 x10).toArray)::t1.snd.1 } w5 fun v11 w12=>∃t13:Bool,v11=Value.bool t13/\IfB t13 (R (Qz n4) w12) (([]:List Df)=[]/\∃b14:Nat,b14<b3/\y1 b14 (IntKind.i64.wrap (n4+1)) w12)) (R (Qz (-1:Int)) w5)
def F125(t0:Sl)(t1:Nat×Array Value)(w:World)(R:RV):Prop:=Ql (α:=Int) 0 w fun y1 b3 n4 w5=>(F125j1 t0 t1 R y1 b3 n4 w5)
theorem F125_ok(t0:Sl)(t1:Nat×Array Value)(w:World)(R:RV)(h:F125 t0 t1 w R):Cw 125 #[Qy t0,Value.func (Fn.func t1.1) #[] t1.2] w R:=
 ckF Tryz.func125 (nd (.node (nd (.loop [(8,oi)] (rg [4,5,8,18]) .nil)) .nil)) h (by kernel_rfl) (by kernel_rfl)
theorem F129_ok(t0:Sl)(t1:Nat×Array Value)(w:World)(R:RV)(h:Cx 150 #[Qy t0,Value.func (Fn.func t1.1) #[] t1.2] w fun v1 w2=>∃n3:Int,v1=Qz n3/\R (Value.bool (decide (0<=n3))) w2):Cw 129 #[Qy t0,Value.func (Fn.func t1.1) #[] t1.2] w R:=
 ckF Tryz.func129 .nil h (by kernel_rfl) (by kernel_rfl)
def F150j1(t0:Sl)(t1:Nat×Array Value)(R:RV)(y1:Nat->Int->World->Prop)(b3:Nat)(n4:Int)(w5:World):Prop:=IfB (decide (n4<(t0.n:Int))) (Qx t0.1 n4 (t0.2:Int) fun b8 b9=>∃(x10:Int×Int),CellsAt w5 b8 (b9+n4.toNat*2) [Qz x10.1,Qz x10.2]/\Cx t1.1 { toList:=Value.agg #[Qz x10.1,Qz x10.2]::t1.snd.1 } w5 fun v11 w12=>∃t13:Bool,v11=Value.bool t13/\IfB t13 (R (Qz n4) w12) (([]:List Df)=[]/\∃b14:Nat,b14<b3/\y1 b14 (IntKind.i64.wrap (n4+1)) w12)) (R (Qz (-1:Int)) w5)
def F150(t0:Sl)(t1:Nat×Array Value)(w:World)(R:RV):Prop:=Ql (α:=Int) 0 w fun y1 b3 n4 w5=>(F150j1 t0 t1 R y1 b3 n4 w5)
theorem F150_ok(t0:Sl)(t1:Nat×Array Value)(w:World)(R:RV)(h:F150 t0 t1 w R):Cw 150 #[Qy t0,Value.func (Fn.func t1.1) #[] t1.2] w R:=
 ckF Tryz.func150 (nd (.node (nd (.loop [(8,oi)] (rg [4,5,8,18]) .nil)) .nil)) h (by kernel_rfl) (by kernel_rfl)
theorem F91_ok(t0:Sl)(t1:Nat×Array Value)(w:World)(R:RV)(h:Cx 124 #[Qy t0,Value.func (Fn.func t1.1) #[] t1.2] w fun v1 w2=>∃n3:Int,v1=Qz n3/\R (Value.bool (decide (0<=n3))) w2):Cw 91 #[Qy t0,Value.func (Fn.func t1.1) #[] t1.2] w R:=
 ckF Tryz.func91 .nil h (by kernel_rfl) (by kernel_rfl)
theorem any_idx{α:Type}(xs:List α)(q:α->Bool):decide (0<=idxV (xs.findIdx? q))=xs.any q:=by
 cases hf:xs.findIdx? q with
 | none=>
  have:=List.findIdx?_eq_none_iff.1 hf
  rw[show xs.any q=false from by rw[List.any_eq_false];intro x hx;rw[this x hx];simp]
  simp[idxV]
 | some i=>
  obtain⟨hi,hqi,_⟩:=List.findIdx?_eq_some_iff_getElem.1 hf
  rw[show xs.any q=true from List.any_eq_true.2 ⟨_,List.getElem_mem hi,hqi⟩]
  simp[idxV]
theorem storeC{w:World}{b o:Nat}{vs:List Value}{old:Array Value}{T:TypeId}{K:World->Prop}(hb:w.heap[b]? =some (.cells old T (0,0)))(h0:vs≠[])(hl:o+vs.length<=old.size)(h1:One vs)
  (hK:∀w',w'.heap[b]? =some (.cells (spliceL old.toList o vs).toArray T (0,0))->Ch (fun i=>i=b) w w'->K w'):StoreP w b o vs K:=by
 cases vs with
 | nil=>exact absurd rfl h0
 | cons v vs=>
  refine⟨old,T,hb,by simpa using hl,h1,fun w' hu=>hK w' ?_ hu.ch⟩
  rw[hu.new,setsA_eq _ _ _ (by simpa using hl)]
theorem boxAt{w w':World}{b:Nat}{cs:List Value}{T:TypeId}(h:w.heap[b]? =some (.cells cs.toArray T (0,0)))(o:Nat)(e:Ext w w'):w'.cell? ⟨b,0+o,none⟩=cs[o]? :=by
 rw[cell_of (e.at h),Nat.zero_add];exact List.getElem?_toArray ..
theorem boxAll{w w':World}{b:Nat}{cs:List Value}{T:TypeId}(h:w.heap[b]? =some (.cells cs.toArray T (0,0)))(e:Ext w w'):CellsAt w' b 0 cs:=cellsAt_of (e.at h) fun i v hv=>by rw[Nat.zero_add];simpa using hv
abbrev keyV(k:KeyD):Value:=.agg #[.int .i64 k.1,.int .i64 k.2]
theorem c128(n:Int)(w:World):Cw 128 #[iv n] w fun v w'=>v=.bool (decide (0<=n/\n<4))/\w=w':=
 F128_ok n w _ (IfB.dec (fun h=>⟨by simp[h],rfl⟩) fun h=>⟨by simp[h],rfl⟩)
theorem c90(k:KeyD)(n:Int)(w:World):Cw 90 #[keyV k,iv n] w fun v w'=>∃r,v=.bool r/\(r=true↔KeyOk k n)/\Ext w w':=by
 refine F90_ok k n w _ fun b1 w2 a2=>?_
 have e2:Ext w w2:=a2.ch _
 have q:=fun(o:Nat)=>boxAt (cs:=keyC k) a2.new o (Ch.refl _ _)
 refine⟨_,q 0,IfB.dec (fun h1=>⟨_,q 0,IfB.dec (fun h2=>⟨_,q 1,IfB.dec (fun h3=>⟨_,q 1,_,rfl,?_,e2⟩) fun h3=>⟨false,rfl,⟨fun h=>(by cases h),fun h=>absurd h.2.2.1 h3⟩,e2⟩⟩) fun h2=>⟨false,rfl,⟨fun h=>(by cases h),fun h=>absurd h.2.1 h2⟩,e2⟩⟩) fun h1=>⟨false,rfl,⟨fun h=>(by cases h),fun h=>absurd h.1 h1⟩,e2⟩⟩
 rw[decide_eq_true_eq]
 exact⟨fun h=>⟨h1,h2,h3,h⟩,fun h=>h.2.2.2⟩
abbrev insV(x:InsD):Value:=.agg (insC x).toArray
abbrev InsX:=Int×Int×Int×Int×Int×Int×Int×Int×Int
abbrev insX(x:InsD):InsX:=(x.1,x.2.1,x.2.2.1,x.2.2.2.1,x.2.2.2.2.1.1,x.2.2.2.2.1.2,x.2.2.2.2.2.1.1,x.2.2.2.2.2.1.2,x.2.2.2.2.2.2)
theorem insC_one(x:InsD):One (insC x):=by intro v hv;simp at hv;rcases hv with rfl|rfl|rfl|rfl|rfl|rfl|rfl|rfl|rfl<;>rfl
def onlyF(x:InsD):InsX×Bool:=
 if x.1=1\/x.1=2 then ((x.1,x.2.1,0,0,x.2.2.2.2.1.1,x.2.2.2.2.1.2,0,0,0),true)
 else if x.1=3 then ((x.1,0,0,0,x.2.2.2.2.1.1,x.2.2.2.2.1.2,0,0,0),true)
 else if x.1=4 then ((x.1,x.2.1,0,0,x.2.2.2.2.1.1,x.2.2.2.2.1.2,x.2.2.2.2.2.1.1,x.2.2.2.2.2.1.2,0),true)
 else if x.1=5\/x.1=8 then ((x.1,x.2.1,0,0,0,0,0,0,x.2.2.2.2.2.2),true)
 else if x.1=6\/x.1=7 then ((x.1,x.2.1,x.2.2.1,x.2.2.2.1,0,0,0,0,0),true)
 else ((x.1,x.2.1,0,0,0,0,0,0,0),false)
theorem lC_one(y:InsX):One (lC66 y):=by intro v hv;simp at hv;rcases hv with rfl|rfl|rfl|rfl|rfl|rfl|rfl|rfl|rfl<;>rfl
theorem only_end{w:World}{b3 b7:Nat}{y:InsX}{r:Bool}{R:RV}(h7:∃T,w.heap[b7]? =some (.cells (lC66 y).toArray T (0,0)))(h3:∃z T,w.heap[b3]? =some (.cells z T (0,0))/\z.size=9)
  (hR:∀w',Ch (fun i=>i=b3) w w'->R (.tuple #[.agg (lC66 y).toArray,.bool r]) w'):
  ∃x:InsX,CellsAt w b7 0 (lC66 x)/\(lC66 x).toArray.size=9/\StoreP w b3 0 (lC66 x) fun w'=>∃x':InsX,CellsAt w' b3 0 (lC66 x')/\R (.tuple #[.agg (lC66 x').toArray,.bool r]) w':=by
 obtain⟨T,h7⟩:=h7
 obtain⟨z,T',h3,hz⟩:=h3
 refine⟨y,boxAll h7 (Ch.refl _ _),rfl,store_all (vs:=lC66 y) h3 (by rw[hz];rfl) (lC_one y) fun w' hu=>⟨y,?_,hR w' hu.ch⟩⟩
 exact boxAll (cs:=lC66 y) hu.new (Ch.refl _ _)
theorem only_ok(x:InsD)(w:World){R:RV}(hR:∀w',Ext w w'->R (.tuple #[.agg (lC66 (onlyF x).1).toArray,.bool (onlyF x).2]) w'):Cw 126 #[insV x] w R:=by
 refine F126_ok (insX x) w _ fun b1 w2 a2 b3 w4 a4=>?_
 have p2:=a2.here;have z2:=a2.size;have p4:=a4.here;have z4:=a4.size
 have e4:Ext w w4:=(a2.ch _).trans (a4.ch _)
 have B1:=a4.at a2.new
 have q:=fun(o:Nat)=>boxAt (cs:=insC x) B1 o (Ch.refl _ _)
 refine⟨_,q 0,_,q 1,fun b7 w8 a8=>⟨rfl,store_all (vs:=lC66 (x.1,x.2.1,0,0,0,0,0,0,0)) a8.new rfl (lC_one _) fun w9 u9=>?_⟩⟩
 have p8:=a8.here
 have C1:w9.heap[b1]? =some (.cells (insC x).toArray 66 (0,0)):=u9.at (a8.at B1) (by omega)
 have C3:=u9.at (a8.at a4.new) (show b3≠b7 by omega)
 have C7:=u9.new
 have e9:Ext w w9:=(e4.trans (a8.ch _)).chN u9.ch fun j e=>by omega
 have fin:∀ {w':World}{y:InsX}{r:Bool},(∃T,w'.heap[b7]? =some (.cells (lC66 y).toArray T (0,0)))->Ch (fun i=>i=b7) w9 w'->(y,r)=onlyF x->
   ∃x':InsX,CellsAt w' b7 0 (lC66 x')/\(lC66 x').toArray.size=9/\StoreP w' b3 0 (lC66 x') fun w''=>∃x'':InsX,CellsAt w'' b3 0 (lC66 x'')/\R (.tuple #[.agg (lC66 x'').toArray,.bool r]) w'':=fun{w' y r} h7 hC hy=>by
  refine only_end h7 ⟨_,_,hC.at C3 (by omega),rfl⟩ fun w'' hC'=>?_
  have:=hR w'' ?_
  ·rw[<-hy] at this;exact this
  exact(e9.chN hC fun j e=>by omega).chN hC' fun j e=>by omega
 have g:=fun(o:Nat)=>boxAt (cs:=insC x) C1 o (Ch.refl _ _)
 have ed:=extDrew w9
 have gd:=fun(o:Nat)=>boxAt (cs:=insC x) C1 o ed
 have K4:∀ {W:World},Ch (fun i=>i=b7) w9 W->CellsAt W b1 (0+4) [.int .i64 x.2.2.2.2.1.1,.int .i64 x.2.2.2.2.1.2]:=fun hC=>cellsAt_of (hC.at C1 (by omega)) fun i v hv=>by
  match i,hv with
  | 0,hv=>exact hv
  | 1,hv=>exact hv
 have K6:∀ {W:World},Ch (fun i=>i=b7) w9 W->CellsAt W b1 (0+6) [.int .i64 x.2.2.2.2.2.1.1,.int .i64 x.2.2.2.2.2.1.2]:=fun hC=>cellsAt_of (hC.at C1 (by omega)) fun i v hv=>by
  match i,hv with
  | 0,hv=>exact hv
  | 1,hv=>exact hv
 have one2:∀a b:Int,One [.int .i64 a,.int .i64 b]:=fun a b v hv=>by simp at hv;rcases hv with rfl|rfl<;>rfl
 have r0:Ch (fun i=>i=b7) w9 w9:=Ch.refl _ _
 have rd:Ch (fun i=>i=b7) w9 w9.drew:=ed.mono fun _ _ h=>h.elim
 refine⟨_,g 0,?_⟩
 have o1:x.1=1\/x.1=2->F126k4 w9 b1 b7 b3 R:=fun h=>by
  refine⟨(_,_),K4 r0,rfl,storeC C7 (by simp) (Nat.le_of_ble_eq_true rfl) (one2 _ _) fun w' h' c'=>fin (y:=(x.1,x.2.1,0,0,x.2.2.2.2.1.1,x.2.2.2.2.1.2,0,0,0)) ⟨_,h'⟩ c' ?_⟩
  unfold onlyF;rw[if_pos h]
 have o5:x.1=5\/x.1=8->F126k5 w9 b1 b7 b3 R:=fun h=>by
  refine⟨_,g 8,rfl,storeC C7 (by simp) (Nat.le_of_ble_eq_true rfl) (oneIv _) fun w' h' c'=>fin (y:=(x.1,x.2.1,0,0,0,0,0,0,x.2.2.2.2.2.2)) ⟨_,h'⟩ c' ?_⟩
  unfold onlyF;rw[if_neg (by omega),if_neg (by omega),if_neg (by omega),if_pos h]
 have o6:x.1=6\/x.1=7->F126k3 w9 b1 b7 b3 R:=fun h=>by
  refine⟨_,gd 2,_,gd 3,rfl,storeC (ed.at C7) (by simp) (Nat.le_of_ble_eq_true rfl) (oneIv _) fun w' h' c'=>?_⟩
  have c:=rd.trans c'
  refine⟨by rw[cell_of (c.at C1 (by omega))];rfl,rfl,storeC h' (by simp) (Nat.le_of_ble_eq_true rfl) (oneIv _) fun w'' h'' c''=>fin (y:=(x.1,x.2.1,x.2.2.1,x.2.2.2.1,0,0,0,0,0)) ⟨_,h''⟩ (c.trans c'') ?_⟩
  unfold onlyF;rw[if_neg (by omega),if_neg (by omega),if_neg (by omega),if_neg (by omega),if_pos h]
 have o0:¬(1<=x.1/\x.1<=8)->F126k6 w9 b7 b3 R:=fun h=>by
  refine fin (y:=(x.1,x.2.1,0,0,0,0,0,0,0)) ⟨_,C7⟩ r0 ?_
  unfold onlyF;rw[if_neg (by omega),if_neg (by omega),if_neg (by omega),if_neg (by omega),if_neg (by omega)]
 have rest:¬(x.1=1\/x.1=2)->F126k1 x.1 w9 b1 b7 b3 R:=fun h=>by
  have k2:¬(x.1=3\/x.1=4\/x.1=5\/x.1=8)->F126k2 x.1 w9 b1 b7 b3 R:=fun h'=>by
   refine IfB.intro (fun h6=>IfB.yes h6 (o6 (.inl (by simpa using h6)))) fun h6=>IfB.intro (fun h7=>o6 (.inr (by simpa using h7))) fun h7=>o0 ?_
   have h6:¬x.1=6:=by simpa using h6
   have h7:¬x.1=7:=by simpa using h7
   omega
  refine IfB.intro (fun h3=>?_) fun h3=>?_
  ·have h3:x.1=3:=by simpa using h3
   refine⟨(_,_),K4 rd,rfl,storeC (ed.at C7) (by simp) (Nat.le_of_ble_eq_true rfl) (oneIv _) fun w' h' c'=>?_⟩
   have c:=rd.trans c'
   refine⟨K4 c,rfl,storeC h' (by simp) (Nat.le_of_ble_eq_true rfl) (one2 _ _) fun w'' h'' c''=>fin (y:=(x.1,0,0,0,x.2.2.2.2.1.1,x.2.2.2.2.1.2,0,0,0)) ⟨_,h''⟩ (c.trans c'') ?_⟩
   unfold onlyF;rw[if_neg (by omega),if_pos h3]
  ·have h3:¬x.1=3:=by simpa using h3
   refine IfB.intro (fun h4=>?_) fun h4=>?_
   ·have h4:x.1=4:=by simpa using h4
    refine⟨(_,_),K4 rd,(_,_),K6 rd,rfl,storeC (ed.at C7) (by simp) (Nat.le_of_ble_eq_true rfl) (one2 _ _) fun w' h' c'=>?_⟩
    have c:=rd.trans c'
    refine⟨K6 c,rfl,storeC h' (by simp) (Nat.le_of_ble_eq_true rfl) (one2 _ _) fun w'' h'' c''=>fin (y:=(x.1,x.2.1,0,0,x.2.2.2.2.1.1,x.2.2.2.2.1.2,x.2.2.2.2.2.1.1,x.2.2.2.2.2.1.2,0)) ⟨_,h''⟩ (c.trans c'') ?_⟩
    unfold onlyF;rw[if_neg (by omega),if_neg (by omega),if_pos h4]
   ·have h4:¬x.1=4:=by simpa using h4
    refine IfB.intro (fun h5=>IfB.yes h5 (o5 (.inl (by simpa using h5)))) fun h5=>IfB.intro (fun h8=>o5 (.inr (by simpa using h8))) fun h8=>k2 ?_
    have h5:¬x.1=5:=by simpa using h5
    have h8:¬x.1=8:=by simpa using h8
    omega
 refine IfB.intro (fun h1=>IfB.yes h1 (o1 (.inl (by simpa using h1)))) fun h1=>IfB.intro (fun h2=>o1 (.inr (by simpa using h2))) fun h2=>rest ?_
 have h1:¬x.1=1:=by simpa using h1
 have h2:¬x.1=2:=by simpa using h2
 omega
theorem c126(x:InsD)(w:World):Cw 126 #[insV x] w fun v w'=>v=.tuple #[.agg (lC66 (onlyF x).1).toArray,.bool (onlyF x).2]/\Ext w w':=only_ok x w fun _ e=>⟨rfl,e⟩
noncomputable def bq(p:Prop):Bool:= @decide p (Classical.propDecidable p)
theorem bq_iff{p:Prop}:bq p=true↔p:=by unfold bq;exact @decide_eq_true_iff p (Classical.propDecidable p)
theorem bq_neg{p:Prop}{r:Bool}(h:r=true↔p):(!r)=bq (¬p):=by rw[Bool.eq_iff_iff,bq_iff,Bool.not_eq_true',<-Bool.not_eq_true,h]
theorem any_bq{α:Type}{l:List α}{P:α->Prop}:l.any (fun x=>bq (¬P x))=false↔∀x∈l,P x:=by
 rw[List.any_eq_false]
 exact⟨fun h x hx=>Classical.not_not.1 fun hn=>h x hx (bq_iff.2 hn),fun h x hx hn=>bq_iff.1 hn (h x hx)⟩
def eqI(x y:InsX):Bool:=(x.1 == y.1)&&((x.2.1 == y.2.1)&&((x.2.2.1 == y.2.2.1)&&((x.2.2.2.1 == y.2.2.2.1)&&(((x.2.2.2.2.1 == y.2.2.2.2.1)&&((x.2.2.2.2.2.1 == y.2.2.2.2.2.1)&&true))&&(((x.2.2.2.2.2.2.1 == y.2.2.2.2.2.2.1)&&((x.2.2.2.2.2.2.2.1 == y.2.2.2.2.2.2.2.1)&&true))&&((x.2.2.2.2.2.2.2.2 == y.2.2.2.2.2.2.2.2)&&true))))))
theorem eqI_iff(x y:InsX):eqI x y=true↔x=y:=by
 obtain⟨a1,a2,a3,a4,a5,a6,a7,a8,a9⟩:=x
 obtain⟨b1,b2,b3,b4,b5,b6,b7,b8,b9⟩:=y
 simp[eqI]
 intros
 exact⟨fun⟨⟨h5,h6⟩,⟨h7,h8⟩,h9⟩=>⟨h5,h6,h7,h8,h9⟩,fun⟨h5,h6,h7,h8,h9⟩=>⟨⟨h5,h6⟩,⟨h7,h8⟩,h9⟩⟩
theorem eqIns(x y:InsX):EqAt Tryz.prog 66 (.agg (lC66 x).toArray) (.agg (lC66 y).toArray) (eqI x y):=
 eqAt_struct tbOk (d:=3) (by decide) (t:=66) (xs:=(lC66 x).toArray) (ys:=(lC66 y).toArray) (b:=eqI x y) (by kernel_rfl) (by kernel_rfl)
def keysOf(x:InsD):List KeyD:=if x.1=1\/x.1=2\/x.1=3 then [x.2.2.2.2.1] else if x.1=4 then [x.2.2.2.2.1,x.2.2.2.2.2.1] else []
theorem keysOf_len(x:InsD):(keysOf x).length<=2:=by
 unfold keysOf
 split
 ·exact Nat.le_succ 1
 ·split
  ·exact Nat.le_refl 2
  ·exact Nat.zero_le 2
theorem insOk_iff(x:InsD)(n:Int):InsOk x n↔(onlyF x).2=true/\insX x=(onlyF x).1/\(0<=x.2.1/\x.2.1<4)/\(0<=x.2.2.1/\x.2.2.1<4)/\(0<=x.2.2.2.1/\x.2.2.2.1<4)/\∀k∈keysOf x,KeyOk k n:=by
 obtain⟨o,a,b,c,⟨k1,k2⟩,⟨l1,l2⟩,X⟩:=x
 constructor
 ·rintro⟨h1,h2,h3,h4,h5,h6,h7,h8,h9,h10,h11,h12⟩
  dsimp only at*
  have:o=1\/o=2\/o=3\/o=4\/o=5\/o=6\/o=7\/o=8:=by omega
  rcases this with rfl|rfl|rfl|rfl|rfl|rfl|rfl|rfl<;>simp_all [onlyF,keysOf,insX]<;>omega
 ·rintro⟨h1,h2,h3,h4,h5,h6⟩
  dsimp only at*
  have:o=1\/o=2\/o=3\/o=4\/o=5\/o=6\/o=7\/o=8\/¬(1<=o/\o<=8):=by omega
  rcases this with rfl|rfl|rfl|rfl|rfl|rfl|rfl|rfl|ho
  all_goals first
   | (exfalso;unfold onlyF at h1;rw[if_neg (by dsimp only;omega),if_neg (by dsimp only;omega),if_neg (by dsimp only;omega),if_neg (by dsimp only;omega),if_neg (by dsimp only;omega)] at h1;cases h1)
   | (simp[onlyF,keysOf,insX] at h1 h2 h6;refine⟨?_,?_,?_,?_,?_,?_,?_,?_,?_,?_,?_,?_⟩<;>dsimp only<;>simp_all<;>omega)
theorem c130(x:InsD)(w:World):Cw 130 #[insV x] w fun v w'=>∃t',v=slV t'/\Rd w' t' 2 ((keysOf x).flatMap keyC)/\Ext w w':=by
 refine F130_ok (insX x) w _ fun b1 w2 a2=>?_
 have e2:Ext w w2:=a2.ch _
 have r:=Ch.refl (fun _=>False) w2
 have q0:=boxAt (cs:=insC x) a2.new 0 r
 have qK:CellsAt w2 b1 (0+4) (keyC x.2.2.2.2.1):=cellsAt_of a2.new fun i v hv=>by
  match i,hv with
  | 0,hv=>exact hv
  | 1,hv=>exact hv
 have qL:CellsAt w2 b1 (0+6) (keyC x.2.2.2.2.2.1):=cellsAt_of a2.new fun i v hv=>by
  match i,hv with
  | 0,hv=>exact hv
  | 1,hv=>exact hv
 have one:(x.1=1\/x.1=2\/x.1=3)->∃y:Int×Int,CellsAt w2 b1 (0+4) [.int .i64 y.1,.int .i64 y.2]/\1*2<=16777216/\AllocP w2 (.cells #[.int .i64 y.1,.int .i64 y.2] 64) fun b5 w6=>(fun(v:Value) w'=>∃t',v=slV t'/\Rd w' t' 2 ((keysOf x).flatMap keyC)/\Ext w w') (.slice (some ⟨b5,0,none⟩) 1 1) w6:=fun h=>by
  refine⟨x.2.2.2.2.1,qK,by decide,fun b5 w6 a6=>⟨⟨some ⟨b5,0,none⟩,1,1⟩,rfl,?_,e2.trans (a6.ch _)⟩⟩
  rw[keysOf,if_pos h]
  exact(OwS.new (sz:=2) (n:=1) (cs:=keyC x.2.2.2.2.1) a6 rfl).rd
 have rest:¬(x.1=1\/x.1=2\/x.1=3)->F130k1 x.1 w2 b1 (fun(v:Value) w'=>∃t',v=slV t'/\Rd w' t' 2 ((keysOf x).flatMap keyC)/\Ext w w'):=fun h=>by
  refine IfB.intro (fun h4=>?_) fun h4=>⟨⟨none,0,0⟩,rfl,?_,e2⟩
  ·have h4:x.1=4:=by simpa using h4
   refine⟨x.2.2.2.2.1,qK,x.2.2.2.2.2.1,qL,by decide,fun b5 w6 a6=>⟨⟨some ⟨b5,0,none⟩,2,2⟩,rfl,?_,e2.trans (a6.ch _)⟩⟩
   rw[keysOf,if_neg h,if_pos h4]
   exact(OwS.new (sz:=2) (n:=2) (cs:=keyC x.2.2.2.2.1++keyC x.2.2.2.2.2.1) a6 rfl).rd
  ·have h4:¬x.1=4:=by simpa using h4
   rw[keysOf,if_neg h,if_neg h4]
   exact⟨rfl,rfl⟩
 refine⟨_,q0,IfB.intro (fun h1=>?_) fun h1=>IfB.intro (fun h2=>?_) fun h2=>IfB.intro (fun h3=>?_) fun h3=>?_⟩
 ·exact IfB.yes h1 (one (.inl (by simpa using h1)))
 ·exact IfB.yes h2 (one (.inr (.inl (by simpa using h2))))
 ·exact one (.inr (.inr (by simpa using h3)))
 ·have h1:¬x.1=1:=by simpa using h1
  have h2:¬x.1=2:=by simpa using h2
  have h3:¬x.1=3:=by simpa using h3
  exact rest (by omega)
theorem keyC_len(x:KeyD):(keyC x).length=2:=rfl
theorem c150{w:World}{t:Sl}{xs:List KeyD}{t1:Nat×Array Value}{q:KeyD->Bool}(h:Rd w t 2 (xs.flatMap keyC))(hl:xs.length<=1000000)
  (hq:∀(x:KeyD)(W:World),x∈xs->Ext w W->∀R':RV,(∀w',Ext W w'->R' (.bool (q x)) w')->Cx t1.1 { toList:=keyV x::t1.2.toList } W R'):
  Cw 150 #[slV t,.func (.func t1.1) #[] t1.2] w fun v w'=>v=iv (idxV (xs.findIdx? q))/\Ext w w':=by
 refine F150_ok t t1 w _ ?_
 have hn:=rdN keyC_len (by omega) h
 have e:∀R,F150 t t1 w R=IndexF Tryz.prog (fun W b o i (x:KeyD)=>CellsAt W b (o+i*2) (keyC x)) keyV t t1 w R:=fun _=>rfl
 rw[e]
 refine IndexF_of xs id q hn (by omega) (fun i x W hx e=>?_) (fun i x W hx e R' hR=>hq x W (List.mem_of_getElem? hx) e R' hR) fun w' e=>⟨rfl,e⟩
 obtain⟨hi,_⟩:=List.getElem?_eq_some_iff.1 hx
 exact(h.ext e).elem (i:=i) (by omega) (by omega) (flatGet keyC_len hx)
theorem c129{w:World}{t:Sl}{xs:List KeyD}{t1:Nat×Array Value}{q:KeyD->Bool}(h:Rd w t 2 (xs.flatMap keyC))(hl:xs.length<=1000000)
  (hq:∀(x:KeyD)(W:World),x∈xs->Ext w W->∀R':RV,(∀w',Ext W w'->R' (.bool (q x)) w')->Cx t1.1 { toList:=keyV x::t1.2.toList } W R'):
  Cw 129 #[slV t,.func (.func t1.1) #[] t1.2] w fun v w'=>v=.bool (xs.any q)/\Ext w w':=
 F129_ok t t1 w _ ((c150 h hl hq).use fun v w' ⟨hv,e⟩=>⟨_,hv,by rw[any_idx],e⟩)
theorem c125{w:World}{t:Sl}{xs:List InsD}{t1:Nat×Array Value}{q:InsD->Bool}(h:Rd w t 9 (xs.flatMap insC))(hl:xs.length<=1000000)
  (hq:∀(x:InsD)(W:World),x∈xs->Ext w W->∀R':RV,(∀w',Ext W w'->R' (.bool (q x)) w')->Cx t1.1 { toList:=insV x::t1.2.toList } W R'):
  Cw 125 #[slV t,.func (.func t1.1) #[] t1.2] w fun v w'=>v=iv (idxV (xs.findIdx? q))/\Ext w w':=by
 refine F125_ok t t1 w _ ?_
 have hn:=rdN insC_len (by omega) h
 have e:∀R,F125 t t1 w R=IndexF Tryz.prog (fun W b o i (x:InsX)=>CellsAt W b (o+i*9) (lC66 x)) (fun x:InsX=>.agg (lC66 x).toArray) t t1 w R:=fun _=>rfl
 rw[e]
 refine IndexF_of xs insX q hn (by omega) (fun i x W hx e=>?_) (fun i x W hx e R' hR=>hq x W (List.mem_of_getElem? hx) e R' hR) fun w' e=>⟨rfl,e⟩
 obtain⟨hi,_⟩:=List.getElem?_eq_some_iff.1 hx
 exact(h.ext e).elem (i:=i) (by omega) (by omega) (flatGet insC_len hx)
theorem c92{w:World}{t:Sl}{xs:List InsD}{t1:Nat×Array Value}{q:InsD->Bool}(h:Rd w t 9 (xs.flatMap insC))(hl:xs.length<=1000000)
  (hq:∀(x:InsD)(W:World),x∈xs->Ext w W->∀R':RV,(∀w',Ext W w'->R' (.bool (q x)) w')->Cx t1.1 { toList:=insV x::t1.2.toList } W R'):
  Cw 92 #[slV t,.func (.func t1.1) #[] t1.2] w fun v w'=>v=.bool (xs.any q)/\Ext w w':=
 F92_ok t t1 w _ ((c125 h hl hq).use fun v w' ⟨hv,e⟩=>⟨_,hv,by rw[any_idx],e⟩)
theorem c91{w:World}{t:Sl}{xs:List Int}{t1:Nat×Array Value}{q:Int->Bool}(h:Rd w t 1 (xs.map iv))(hl:xs.length<=1000000)
  (hq:∀(x:Int)(W:World),x∈xs->Ext w W->∀R':RV,(∀w',Ext W w'->R' (.bool (q x)) w')->Cx t1.1 { toList:=iv x::t1.2.toList } W R'):
  Cw 91 #[slV t,.func (.func t1.1) #[] t1.2] w fun v w'=>v=.bool (xs.any q)/\Ext w w':=
 F91_ok t t1 w _ ((c124 h hl hq).use fun v w' ⟨hv,e⟩=>⟨_,hv,by rw[any_idx],e⟩)
theorem c127(k:KeyD){b:Nat}{n:Int}{w:World}(hb:∃T,w.heap[b]? =some (.cells #[iv n] T (0,0))):
  Cw 127 #[keyV k,.pointer (some ⟨b,0,none⟩)] w fun v w'=>v=.bool (bq (¬KeyOk k n))/\Ext w w':=by
 obtain⟨T,hb⟩:=hb
 refine F127_ok k b w _ fun b1 w2 a2=>⟨k,boxAll (cs:=keyC k) a2.new (Ch.refl _ _),n,by rw[cell_of (a2.at hb)];rfl,(c90 k n w2).use ?_⟩
 rintro _ w6 ⟨r,rfl,hr,e6⟩
 exact⟨r,rfl,by rw[bq_neg hr],Ch.trans (a2.ch _) e6⟩
theorem c94(x:InsD)(n:Int)(w:World):Cw 94 #[insV x,iv n] w fun v w'=>∃r,v=.bool r/\(r=true↔InsOk x n)/\Ext w w':=by
 refine F94_ok (insX x) n w _ fun b1 w2 a2 b3 w4 a4=>⟨insX x,boxAll (cs:=insC x) (a4.at a2.new) (Ch.refl _ _),(c126 x w4).use ?_⟩
 have e4:Ext w w4:=(a2.ch _).trans (a4.ch _)
 rintro _ w7 ⟨rfl,e7⟩
 refine⟨onlyF x,rfl,fun b9 w10 a10=>⟨rfl,store_all (vs:=lC66 (onlyF x).1) a10.new rfl (lC_one _) fun w11 u11=>?_⟩⟩
 have e711:Ext w7 w11:=Ch.chN (a10.ch _) u11.ch fun j e=>by have:=a10.here;omega
 have e11:=(e4.trans e7).trans e711
 have x411:Ext w4 w11:=e7.trans e711
 have B1:=x411.at (a4.at a2.new)
 have B3:=x411.at a4.new
 have no:¬InsOk x n->∃r,Value.bool false=.bool r/\(r=true↔InsOk x n)/\Ext w w11:=fun h=>⟨false,rfl,⟨fun h=>(by cases h),fun h'=>absurd h' h⟩,e11⟩
 refine IfB.intro (fun h1=>?_) fun h1=>no fun h=>?_
 ·have q:=fun{W:World} (o:Nat) (e:Ext w11 W)=>boxAt (cs:=insC x) B1 o e
  have r:=Ch.refl (fun _=>False) w11
  refine⟨insX x,boxAll (cs:=insC x) B1 r,(onlyF x).1,boxAll (cs:=lC66 (onlyF x).1) u11.new r,_,eqIns _ _,IfB.intro (fun h2=>?_) fun h2=>no fun h=>?_⟩
  ·have h2:=(eqI_iff _ _).1 h2
   refine⟨_,q 1 r,(c128 x.2.1 w11).use ?_⟩
   rintro _ _ ⟨rfl,rfl⟩
   refine⟨_,rfl,IfB.dec (fun h3=>?_) fun h3=>no fun h=>h3 ((insOk_iff x n).1 h).2.2.1⟩
   refine⟨_,q 2 r,(c128 x.2.2.1 w11).use ?_⟩
   rintro _ _ ⟨rfl,rfl⟩
   refine⟨_,rfl,IfB.dec (fun h4=>?_) fun h4=>no fun h=>h4 ((insOk_iff x n).1 h).2.2.2.1⟩
   refine⟨_,q 3 r,(c128 x.2.2.2.1 w11).use ?_⟩
   rintro _ _ ⟨rfl,rfl⟩
   refine⟨_,rfl,IfB.dec (fun h5=>?_) fun h5=>no fun h=>h5 ((insOk_iff x n).1 h).2.2.2.2.1⟩
   refine⟨insX x,boxAll (cs:=insC x) B1 r,(c130 x w11).use ?_⟩
   rintro _ w29 ⟨s30,rfl,hr30,e29⟩
   refine⟨s30,rfl,(c129 (t1:=(127,#[.pointer (some ⟨b3,0,none⟩)])) (q:=fun k=>bq (¬KeyOk k n)) hr30 (Nat.le_trans (keysOf_len x) (by decide)) fun k W _ e R' hR=>(c127 k ⟨_,Ext.at (e29.trans e) B3⟩).use fun v w' ⟨hv,e'⟩=>hv ▸ hR w' e').use ?_⟩
   rintro _ w32 ⟨rfl,e32⟩
   refine⟨_,rfl,_,rfl,?_,(e11.trans e29).trans e32⟩
   rw[Bool.not_eq_true',any_bq,insOk_iff]
   exact⟨fun h=>⟨h1,h2,h3,h4,h5,h⟩,fun h=>h.2.2.2.2.2⟩
  ·have h:=(eqI_iff _ _).2 ((insOk_iff x n).1 h).2.1
   rw[h2] at h;cases h
 ·have h:=((insOk_iff x n).1 h).1
  have h1:(onlyF x).2=false:=h1
  rw[h1] at h;cases h
theorem c93(x:InsD){b:Nat}{n:Int}{w:World}(hb:∃T,w.heap[b]? =some (.cells #[iv n] T (0,0))):
  Cw 93 #[insV x,.pointer (some ⟨b,0,none⟩)] w fun v w'=>v=.bool (bq (¬InsOk x n))/\Ext w w':=by
 obtain⟨T,hb⟩:=hb
 refine F93_ok (insX x) b w _ fun b1 w2 a2=>⟨insX x,boxAll (cs:=insC x) a2.new (Ch.refl _ _),n,by rw[cell_of (a2.at hb)];rfl,(c94 x n w2).use ?_⟩
 rintro _ w6 ⟨r,rfl,hr,e6⟩
 exact⟨r,rfl,by rw[bq_neg hr],Ch.trans (a2.ch _) e6⟩
theorem c52{w:World}{t:Sl}{l:List InsD}(h:Rd w t 9 (l.flatMap insC))(n:Int):Cw 52 #[slV t,iv n] w fun v w'=>∃r,v=.bool r/\(r=true↔CodeOk l n)/\Ext w w':=by
 have hn:=rdN insC_len (by omega) h
 refine F52_ok t n w _ fun b1 w2 a2=>?_
 have e2:Ext w w2:=a2.ch _
 have no:¬CodeOk l n->∃r,Value.bool false=.bool r/\(r=true↔CodeOk l n)/\Ext w w2:=fun h=>⟨false,rfl,⟨fun h=>(by cases h),fun h'=>absurd h' h⟩,e2⟩
 have q:w2.cell? ⟨b1,0,none⟩=some (iv n):=by rw[cell_of a2.new];rfl
 refine⟨n,q,IfB.dec (fun h1=>no fun h=>by have:=h.n0;omega) fun h1=>⟨n,q,IfB.dec (fun h2=>no fun h=>by have:=h.n3;omega) fun h2=>IfB.dec (fun h3=>no fun h=>by have:=h.l1;omega) fun h3=>IfB.dec (fun h4=>no fun h=>by have:=h.l8;omega) fun h4=>?_⟩⟩
 refine(c92 (t1:=(93,#[.pointer (some ⟨b1,0,none⟩)])) (q:=fun x=>bq (¬InsOk x n)) (h.ext e2) (by omega) fun x W _ e R' hR=>(c93 x ⟨_,e.at a2.new⟩).use fun v w' ⟨hv,e'⟩=>hv ▸ hR w' e').use ?_
 rintro _ w6 ⟨rfl,e6⟩
 refine⟨_,rfl,_,rfl,?_,e2.trans e6⟩
 rw[Bool.not_eq_true',any_bq]
 exact⟨fun h=>⟨by omega,by omega,by omega,by omega,h⟩,fun h=>h.all⟩
def ArgsOk(l:List Int):Prop:=l.length<=3/\∀a∈l,0<=a/\a<=99
def keyAt(k:KeyD)(l:List Int):Int:=if k.1<0 then k.2 else k.2+l.getD k.1.toNat 0
theorem keyAt_range{k:KeyD}{l:List Int}(hk:KeyOk k l.length)(hl:ArgsOk l):0<=keyAt k l/\keyAt k l<=999:=by
 obtain⟨h1,h2,h3,h4⟩:=hk
 unfold keyAt
 split
 ·omega
 ·have hi:k.1.toNat<l.length:=by omega
  rw[List.getD_eq_getElem?_getD,List.getElem?_eq_getElem hi,Option.getD_some]
  have:=hl.2 _ (List.getElem_mem hi)
  omega
theorem c89(n:Int)(w:World):Cw 89 #[iv n] w fun v w'=>v=.bool (bq (¬(0<=n/\n<=99)))/\w=w':=
 F89_ok n w _ (IfB.dec (fun h=>⟨by rw[bq_iff.2 (by omega)],rfl⟩) fun h=>⟨by congr 1;rw[Bool.eq_iff_iff,bq_iff,decide_eq_true_eq];omega,rfl⟩)
theorem c51(k:KeyD){w:World}{t:Sl}{l:List Int}(h:Rd w t 1 (l.map iv)):
  Cw 51 #[keyV k,slV t] w fun v w'=>∃n r,v=.tuple #[iv n,.bool r]/\(r=true↔KeyOk k l.length/\ArgsOk l)/\(r=true->n=keyAt k l)/\Ext w w':=by
 have hn:=rdI h
 refine F51_ok k t w _ fun b1 w2 a2=>⟨k,boxAll (cs:=keyC k) a2.new (Ch.refl _ _),(c90 k t.n w2).use ?_⟩
 have e2:Ext w w2:=a2.ch _
 rintro _ w5 ⟨r,rfl,hr,e5⟩
 rw[hn] at hr
 have no:∀ {W:World},¬(KeyOk k l.length/\ArgsOk l)->Ext w W->∃(n:Int)(r:Bool),Value.tuple #[.int .i64 0,.bool false]=.tuple #[iv n,.bool r]/\(r=true↔KeyOk k l.length/\ArgsOk l)/\(r=true->n=keyAt k l)/\Ext w W:=fun h e=>⟨0,false,rfl,⟨fun h=>(by cases h),fun h'=>absurd h' h⟩,fun h=>(by cases h),e⟩
 have e25:=e2.trans e5
 refine⟨r,rfl,IfB.intro (fun h1=>no (fun h=>?_) e25) fun h1=>IfB.dec (fun h2=>no (fun h=>by have:=h.2.1;omega) e25) fun h2=>?_⟩
 ·have h1:r=false:=by simpa using h1
  rw[hr.2 h.1] at h1;cases h1
 have hk:=hr.1 (by simpa using h1)
 refine(c91 (t1:=(89,#[])) (q:=fun n=>bq (¬(0<=n/\n<=99))) (h.ext e25) (by omega) fun x W _ e R' hR=>(c89 x W).use fun v w' ⟨hv,e'⟩=>by subst e';exact hv ▸ hR W (Ch.refl _ _)).use ?_
 rintro _ w8 ⟨rfl,e8⟩
 have e28:=e25.trans e8
 refine⟨_,rfl,IfB.intro (fun h3=>no (fun h=>?_) e28) fun h3=>?_⟩
 ·rw[any_bq.2 h.2.2] at h3;cases h3
 have ha:ArgsOk l:=⟨by omega,any_bq.1 h3⟩
 have x28:Ext w2 w8:=e5.trans e8
 have B1:=x28.at a2.new
 have hr':=keyAt_range hk ha
 refine⟨_,boxAt (cs:=keyC k) B1 0 (Ch.refl _ _),IfB.dec (fun h4=>⟨_,boxAt (cs:=keyC k) B1 1 (Ch.refl _ _),_,true,rfl,⟨fun _=>⟨hk,ha⟩,fun _=>rfl⟩,fun _=>?_,e28⟩) fun h4=>?_⟩
 ·unfold keyAt;rw[if_pos h4]
 ·obtain⟨h5,h6,h7,h8⟩:=hk
  have hi:k.1.toNat<l.length:=by omega
  have hx:l[k.1.toNat]? =some l[k.1.toNat]:=List.getElem?_eq_getElem hi
  have ed:=e28.trans (extDrew w8)
  obtain⟨b,o,hp,hc⟩:=rdI_get (h.ext ed) hx
  have e':=extDrew w8
  have hka:keyAt k l=k.2+l[k.1.toNat]:=by unfold keyAt;rw[if_neg h4,List.getD_eq_getElem?_getD,hx];rfl
  refine⟨_,boxAt (cs:=keyC k) B1 1 e',_,boxAt (cs:=keyC k) B1 0 e',b,o,hp,⟨by omega,by omega⟩,_,hc,_,true,rfl,⟨fun _=>⟨⟨h5,h6,h7,h8⟩,ha⟩,fun _=>rfl⟩,fun _=>?_,ed⟩
  rw[<-hka,wrap_of (by omega) (by omega)]
theorem F96_ok(t0:Int×Int)(w:World)(R:RV)(h:AllocP w (Obj.cells #[Qz t0.1,Qz t0.2] 64) fun b1 w2=>∃(x3:Int×Int),CellsAt w2 b1 0 [Qz x3.1,Qz x3.2]/\1*9<=16777216/\AllocP w2 (Obj.cells #[Qz 1,Qz 0,Qz 0,Qz 0,Qz x3.1,Qz x3.2,Qz 0,Qz 0,Qz 0] 66) fun b4 w5=>R (Value.slice (some ⟨b4,0,none⟩) 1 1) w5):Cw 96 #[Value.agg #[Qz t0.1,Qz t0.2]] w R:=
 ckF Tryz.func96 .nil h (by kernel_rfl) (by kernel_rfl)
theorem F53_ok(t0:Sl)(t1:Int)(w:World)(R:RV)(h:AllocP w (Obj.cells #[Qz t1] 3) fun b1 w2=>Qi w2 b1 0 fun n3=>IfB (decide (0<=n3)) (Qi w2 b1 0 fun n4=>IfB (decide (n4<=3)) (IfB (decide ((t0.n:Int)<=4)) (Qv' 97 #[Qy t0,Value.func (Fn.func 95) #[] #[Value.pointer (some ⟨b1,0,none⟩)]] w2 fun t7 w6=>R (Value.bool !t7) w6) (R (Value.bool false) w2)) (R (Value.bool false) w2)) (R (Value.bool false) w2)):Cw 53 #[Qy t0,Qz t1] w R:=
 ckF Tryz.func53 .nil h (by kernel_rfl) (by kernel_rfl)
theorem F95_ok(t0:Int×Int×Int×Int×Bool)(t1:Nat)(w:World)(R:RV)(h:AllocP w (Obj.cells (lC89 t0).toArray 89) fun b1 w2=>∃(x3:Int×Int),CellsAt w2.drew b1 (0+0) [Qz x3.1,Qz x3.2]/\∃n4:Int,w2.drew.cell? ⟨t1,0,none⟩=some (Qz n4)/\Qu' 96 #[Value.agg #[Qz x3.1,Qz x3.2]] w2.drew fun s7 w6=>w6.cell? ⟨t1,0,none⟩=some (Qz n4)/\Qv' 52 #[Qy s7,Qz n4] w6 fun t10 w9=>IfB (!t10) (R (Value.bool true) w9) (∃(x11:Int×Int),CellsAt w9 b1 (0+2) [Qz x11.1,Qz x11.2]/\∃n12:Int,w9.cell? ⟨t1,0,none⟩=some (Qz n12)/\Qu' 96 #[Value.agg #[Qz x11.1,Qz x11.2]] w9 fun s15 w14=>w14.cell? ⟨t1,0,none⟩=some (Qz n12)/\Qv' 52 #[Qy s15,Qz n12] w14 fun t18 w17=>R (Value.bool !t18) w17)):Cw 95 #[(.agg (lC89 t0).toArray),Value.pointer (some ⟨t1,0,none⟩)] w R:=
 ckF Tryz.func95 (nd (.node (.draw (sts [0,1,3] (.ac 2 [3] (.ac 4 [] (sts [5,6,7,8,10] (.ac 9 [10] (.ac 11 [] (sts [12,13,14] .fin) .non) .non)) .non) .non))) .nil)) h (by kernel_rfl) (by kernel_rfl)
theorem F98_ok(t0:Sl)(t1:Sl)(w:World)(R:RV)(h:Cx 51 #[Value.agg #[Qz (-1:Int),Qz 0],Qy t1] w fun v1 w2=>∃(x3:Int×Bool),v1=Value.tuple #[Qz x3.1,Value.bool x3.2]/\IfB x3.2 (Qv' 53 #[Qy t0,Qz (t1.2:Int)] w2 fun t6 w5=>R (Value.bool t6) w5) (R (Value.bool false) w2)):Cw 98 #[Qy t0,Qy t1] w R:=
 ckF Tryz.func98 .nil h (by kernel_rfl) (by kernel_rfl)
def F101k1(t0:Sl)(x4:Sl×Int)(w5:World)(t1:Sl)(t2:Nat×Array Value)(b3:Nat)(y1:Nat->Sl×Int->World->Prop):Prop:=Qx t0.1 x4.2 (t0.2:Int) fun b8 b9=>∃(x10:Int×Int×Int×Int×Bool),CellsAt w5 b8 (b9+x4.2.toNat*5) (lC89 x10)/\AllocP w5 (Obj.cells #[Qz 0,Qz 0,Qz 0,Qz 0,Value.bool false] 89) fun b11 w12=>(lC89 x10).toArray.size=5/\StoreP w12 b11 0 (lC89 x10) fun w13=>∃(x14:Int×Int),CellsAt w13 b11 (0+0) [Qz x14.1,Qz x14.2]/\Cx 51 #[Value.agg #[Qz x14.1,Qz x14.2],Qy t1] w13 fun v15 w16=>∃(x17:Int×Bool),v15=Value.tuple #[Qz x17.1,Value.bool x17.2]/\∃(x18:Int×Int),CellsAt w16 b11 (0+2) [Qz x18.1,Qz x18.2]/\Cx 51 #[Value.agg #[Qz x18.1,Qz x18.2],Qy t1] w16 fun v19 w20=>∃(x21:Int×Bool),v19=Value.tuple #[Qz x21.1,Value.bool x21.2]/\∃(x22:Int×Int×Int×Int×Bool),CellsAt w20 b11 0 (lC89 x22)/\Cx t2.1 { toList:=(.agg (lC89 x22).toArray)::t2.snd.1 } w20 fun v23 w24=>∃t25:Bool,v23=Value.bool t25/\IfB t25 (1*2<=16777216/\AllocP w24 (Obj.cells #[Qz x17.1,Qz x21.1] 71) fun b26 w27=>∃(l28:List Value),ReadC w27 (some ⟨b26,0,none⟩) (1*2) l28/\AppendP tt71 71 w27 x4.fst.1 x4.fst.2 x4.fst.3 1 l28 fun s29 w30=>([]:List Df)=[]/\∃b31:Nat,b31<b3/\y1 b31 ({ p:=s29.1,n:=s29.2,c:=s29.3 },IntKind.i64.wrap (x4.2+1)) w30) (([]:List Df)=[]/\∃b32:Nat,b32<b3/\y1 b32 ({ p:=x4.fst.1,n:=x4.fst.2,c:=x4.fst.3 },IntKind.i64.wrap (x4.2+1)) w24)
def F101j1(t0:Sl)(t1:Sl)(t2:Nat×Array Value)(R:RV)(y1:Nat->Sl×Int->World->Prop)(b3:Nat)(x4:Sl×Int)(w5:World):Prop:=IfB (decide (x4.snd<(t0.n:Int))) (F101k1 t0 x4 w5 t1 t2 b3 y1) (Qu' 108 #[Qy x4.fst] w5 fun s35 w34=>R (Qy s35) w34)
theorem F101_ok(t0:Sl)(t1:Sl)(t2:Nat×Array Value)(w:World)(R:RV)(h:Ql (α:=Sl×Int) ({ p:=none,n:=0,c:=0 },0) w fun y1 b3 x4 w5=>(F101j1 t0 t1 t2 R y1 b3 x4 w5)):Cw 101 #[Qy t0,Qy t1,Value.func (Fn.func t2.1) #[] t2.2] w R:=
 ckF Tryz.func101 (nd (nd (.node (nd (.loop [(7,.one (.sl)),(16,oi)] (rg [7,7,9,13,16,43]) .nil)) .nil))) h (by kernel_rfl) (by kernel_rfl)
theorem F54_ok(t0:Sl)(t1:Sl)(w:World)(R:RV)(h:Cx 98 #[Qy t0,Qy t1] w fun v1 w2=>∃t3:Bool,v1=Value.bool t3/\IfB (!t3) (R (Value.tuple #[Value.slice none 0 0,Value.slice none 0 0,Value.bool false]) w2) (Qu' 101 #[Qy t0,Qy t1,Value.func (Fn.func 99) #[] #[]] w2 fun s6 w5=>Qu' 101 #[Qy t0,Qy t1,Value.func (Fn.func 100) #[] #[]] w5 fun s9 w8=>R (Value.tuple #[Qy s6,Qy s9,Value.bool true]) w8)):Cw 54 #[Qy t0,Qy t1] w R:=
 ckF Tryz.func54 .nil h (by kernel_rfl) (by kernel_rfl)
theorem F99_ok(t0:Int×Int×Int×Int×Bool)(w:World)(R:RV)(h:AllocP w (Obj.cells (lC89 t0).toArray 89) fun b1 w2=>R (Value.bool true) w2):Cw 99 #[(.agg (lC89 t0).toArray)] w R:=
 ckF Tryz.func99 .nil h (by kernel_rfl) (by kernel_rfl)
theorem F100_ok(t0:Int×Int×Int×Int×Bool)(w:World)(R:RV)(h:AllocP w (Obj.cells (lC89 t0).toArray 89) fun b1 w2=>Qb w2 b1 (0+4) fun t3=>R (Value.bool t3) w2):Cw 100 #[(.agg (lC89 t0).toArray)] w R:=
 ckF Tryz.func100 .nil h (by kernel_rfl) (by kernel_rfl)
theorem F97_ok(t0:Sl)(t1:Nat×Array Value)(w:World)(R:RV)(h:Cx 131 #[Qy t0,Value.func (Fn.func t1.1) #[] t1.2] w fun v1 w2=>∃n3:Int,v1=Qz n3/\R (Value.bool (decide (0<=n3))) w2):Cw 97 #[Qy t0,Value.func (Fn.func t1.1) #[] t1.2] w R:=
 ckF Tryz.func97 .nil h (by kernel_rfl) (by kernel_rfl)
def F131j1(t0:Sl)(t1:Nat×Array Value)(R:RV)(y1:Nat->Int->World->Prop)(b3:Nat)(n4:Int)(w5:World):Prop:=IfB (decide (n4<(t0.n:Int))) (Qx t0.1 n4 (t0.2:Int) fun b8 b9=>∃(x10:Int×Int×Int×Int×Bool),CellsAt w5 b8 (b9+n4.toNat*5) (lC89 x10)/\Cx t1.1 { toList:=(.agg (lC89 x10).toArray)::t1.snd.1 } w5 fun v11 w12=>∃t13:Bool,v11=Value.bool t13/\IfB t13 (R (Qz n4) w12) (([]:List Df)=[]/\∃b14:Nat,b14<b3/\y1 b14 (IntKind.i64.wrap (n4+1)) w12)) (R (Qz (-1:Int)) w5)
def F131(t0:Sl)(t1:Nat×Array Value)(w:World)(R:RV):Prop:=Ql (α:=Int) 0 w fun y1 b3 n4 w5=>(F131j1 t0 t1 R y1 b3 n4 w5)
theorem F131_ok(t0:Sl)(t1:Nat×Array Value)(w:World)(R:RV)(h:F131 t0 t1 w R):Cw 131 #[Qy t0,Value.func (Fn.func t1.1) #[] t1.2] w R:=
 ckF Tryz.func131 (nd (.node (nd (.loop [(8,oi)] (rg [4,5,8,18]) .nil)) .nil)) h (by kernel_rfl) (by kernel_rfl)
theorem F134_ok(t0:Sl)(t1:Sl)(w:World)(R:RV)(h:2*1<=16777216/\AllocP w (Obj.cells #[Qy t0,Qy t1] 24) fun b1 w2=>Qu' 50 #[Value.slice (some ⟨b1,0,none⟩) 2 2] w2 fun s5 w4=>R (Qy s5) w4):Cw 134 #[Qy t0,Qy t1] w R:=
 ckF Tryz.func134 .nil h (by kernel_rfl) (by kernel_rfl)
theorem F108_ok(t0:Sl)(w:World)(R:RV)(h:1*1<=16777216/\AllocP w (Obj.cells #[Qy t0] 24) fun b1 w2=>Qu' 50 #[Value.slice (some ⟨b1,0,none⟩) 1 1] w2 fun s5 w4=>R (Qy s5) w4):Cw 108 #[Qy t0] w R:=
 ckF Tryz.func108 .nil h (by kernel_rfl) (by kernel_rfl)
theorem c108{w:World}{t:Sl}{xs:List Spn}(h:Rd w t 2 (xs.flatMap sv))(hl:xs.length<=1000000):
  Cw 108 #[slV t] w fun v w'=>∃t' os,v=slV t'/\NormS os/\(∀k,hasS os k↔hasS xs k)/\OwS w' t' 2 (os.flatMap sv)/\os.length<=xs.length/\Ext w w'/\∀j∈blk t',w.heap.size<=j:=by
 refine F108_ok t w _ ⟨by decide,fun b1 w2 a2=>?_⟩
 have e2:Ext w w2:=a2.ch _
 refine(c50 (xs:=[(t,xs)]) (OwS.new (sz:=1) (n:=1) (cs:=[slV t]) a2 rfl).rd (fun x hx=>by rw[List.mem_singleton.1 hx];exact h.ext e2) (by simpa [sumS] using hl) (by simp)).use ?_
 rintro _ w4 ⟨t',os,rfl,h1,h2,h3,h4,h5,h6⟩
 exact⟨t',rfl,t',os,rfl,h1,fun k=>by rw[h2];simp,h3,by simpa [sumS] using h4,e2.trans h5,fun j hj=>by have:=h6 j hj;have:=e2.size;omega⟩
theorem c134{w:World}{s t:Sl}{xs ys:List Spn}(hs:Rd w s 2 (xs.flatMap sv))(ht:Rd w t 2 (ys.flatMap sv))(hl:xs.length+ys.length<=1000000):
  Cw 134 #[slV s,slV t] w fun v w'=>∃t' os,v=slV t'/\NormS os/\(∀k,hasS os k↔hasS xs k\/hasS ys k)/\OwS w' t' 2 (os.flatMap sv)/\os.length<=xs.length+ys.length/\Ext w w'/\∀j∈blk t',w.heap.size<=j:=by
 refine F134_ok s t w _ ⟨by decide,fun b1 w2 a2=>?_⟩
 have e2:Ext w w2:=a2.ch _
 refine(c50 (xs:=[(s,xs),(t,ys)]) (OwS.new (sz:=1) (n:=2) (cs:=[slV s,slV t]) a2 rfl).rd (fun x hx=>by
  rcases List.mem_cons.1 hx with rfl|hx
  ·exact hs.ext e2
  ·rw[List.mem_singleton.1 hx];exact ht.ext e2) (by simpa [sumS] using hl) (by simp)).use ?_
 rintro _ w4 ⟨t',os,rfl,h1,h2,h3,h4,h5,h6⟩
 refine⟨t',rfl,t',os,rfl,h1,fun k=>?_,h3,by simpa [sumS] using h4,e2.trans h5,fun j hj=>by have:=h6 j hj;have:=e2.size;omega⟩
 rw[h2]
 simp only[List.flatMap_cons,List.flatMap_nil,List.append_nil,hasS,List.mem_append]
 exact⟨fun⟨x,hx,h⟩=>hx.elim (fun hx=>.inl ⟨x,hx,h⟩) fun hx=>.inr ⟨x,hx,h⟩,fun h=>h.elim (fun⟨x,hx,h⟩=>⟨x,.inl hx,h⟩) fun⟨x,hx,h⟩=>⟨x,.inr hx,h⟩⟩
def getIns(k:KeyD):InsD:=(1,0,0,0,k,(0,0),0)
theorem getIns_ok(k:KeyD)(n:Int):CodeOk [getIns k] n↔(0<=n/\n<=3)/\KeyOk k n:=by
 constructor
 ·rintro⟨h1,h2,_,_,h⟩
  exact⟨⟨h1,h2⟩,(h (getIns k) (by simp)).ko (show (1:Int)<=4 by decide)⟩
 ·rintro⟨⟨h1,h2⟩,h⟩
  refine⟨h1,h2,by simp,by simp,fun x hx=>?_⟩
  rw[List.mem_singleton.1 hx]
  refine⟨?_,?_,?_,?_,?_,?_,?_,?_,?_,?_,?_,?_⟩<;>simp[getIns]<;>exact h
theorem c96(k:KeyD)(w:World):Cw 96 #[keyV k] w fun v w'=>∃t',v=slV t'/\Rd w' t' 9 ([getIns k].flatMap insC)/\Ext w w':=by
 refine F96_ok k w _ fun b1 w2 a2=>⟨k,boxAll (cs:=keyC k) a2.new (Ch.refl _ _),by decide,fun b4 w5 a5=>⟨⟨some ⟨b4,0,none⟩,1,1⟩,rfl,?_,(a2.ch _).trans (a5.ch _)⟩⟩
 exact(OwS.new (sz:=9) (n:=1) (cs:=insC (getIns k)) a5 rfl).rd
abbrev spX(s:SpTD):Int×Int×Int×Int×Bool:=(s.1.1,s.1.2,s.2.1.1,s.2.1.2,s.2.2)
abbrev spTV(s:SpTD):Value:=.agg (spTC s).toArray
theorem c95(s:SpTD){b:Nat}{n:Int}{w:World}(hn:0<=n/\n<=3)(hb:∃T,w.heap[b]? =some (.cells #[iv n] T (0,0))):
  Cw 95 #[spTV s,.pointer (some ⟨b,0,none⟩)] w fun v w'=>v=.bool (bq (¬(KeyOk s.1 n/\KeyOk s.2.1 n)))/\Ext w w':=by
 obtain⟨T,hb⟩:=hb
 refine F95_ok (spX s) b w _ fun b1 w2 a2=>?_
 have e2:Ext w w2.drew:=(a2.ch _).trans (extDrew w2)
 have B1:=Ext.at (extDrew w2) a2.new
 have rdB:∀ {W:World},Ext w2.drew W->CellsAt W b1 (0+0) (keyC s.1)/\CellsAt W b1 (0+2) (keyC s.2.1)/\W.cell? ⟨b,0,none⟩=some (iv n):=fun e=>⟨cellsAt_of (e.at B1) fun i v hv=>by
  match i,hv with
  | 0,hv=>exact hv
  | 1,hv=>exact hv,cellsAt_of (e.at B1) fun i v hv=>by
  match i,hv with
  | 0,hv=>exact hv
  | 1,hv=>exact hv,by rw[cell_of ((e2.trans e).at hb fun h=>h)];rfl⟩
 have r0:=rdB (Ch.refl _ _)
 refine⟨s.1,r0.1,n,r0.2.2,(c96 s.1 _).use ?_⟩
 rintro _ w6 ⟨s7,rfl,hr7,e6⟩
 refine⟨s7,rfl,(rdB e6).2.2,(c52 hr7 n).use ?_⟩
 rintro _ w9 ⟨r1,rfl,hr1,e9⟩
 rw[getIns_ok] at hr1
 refine⟨r1,rfl,IfB.intro (fun h=>⟨?_,(e2.trans e6).trans e9⟩) fun h=>?_⟩
 ·rw[bq_iff.2 fun h'=>by rw[hr1.2 ⟨hn,h'.1⟩] at h;cases h]
 have k1:=hr1.1 (by simpa using h)
 have r9:=rdB (e6.trans e9)
 refine⟨s.2.1,r9.2.1,n,r9.2.2,(c96 s.2.1 _).use ?_⟩
 rintro _ w14 ⟨s15,rfl,hr15,e14⟩
 refine⟨s15,rfl,(rdB ((e6.trans e9).trans e14)).2.2,(c52 hr15 n).use ?_⟩
 rintro _ w17 ⟨r2,rfl,hr2,e17⟩
 rw[getIns_ok] at hr2
 refine⟨r2,rfl,?_,(((e2.trans e6).trans e9).trans e14).trans e17⟩
 rw[bq_neg hr2]
 congr 1
 rw[Bool.eq_iff_iff,bq_iff,bq_iff]
 exact⟨fun h h'=>h ⟨hn,h'.2⟩,fun h h'=>h ⟨k1.2,h'.2⟩⟩
theorem c131{w:World}{t:Sl}{xs:List SpTD}{t1:Nat×Array Value}{q:SpTD->Bool}(h:Rd w t 5 (xs.flatMap spTC))(hl:xs.length<=1000000)
  (hq:∀(x:SpTD)(W:World),x∈xs->Ext w W->∀R':RV,(∀w',Ext W w'->R' (.bool (q x)) w')->Cx t1.1 { toList:=spTV x::t1.2.toList } W R'):
  Cw 131 #[slV t,.func (.func t1.1) #[] t1.2] w fun v w'=>v=iv (idxV (xs.findIdx? q))/\Ext w w':=by
 refine F131_ok t t1 w _ ?_
 have hn:=rdN spTC_len (by omega) h
 have e:∀R,F131 t t1 w R=IndexF Tryz.prog (fun W b o i (x:Int×Int×Int×Int×Bool)=>CellsAt W b (o+i*5) (lC89 x)) (fun x=>.agg (lC89 x).toArray) t t1 w R:=fun _=>rfl
 rw[e]
 refine IndexF_of xs spX q hn (by omega) (fun i x W hx e=>?_) (fun i x W hx e R' hR=>hq x W (List.mem_of_getElem? hx) e R' hR) fun w' e=>⟨rfl,e⟩
 obtain⟨hi,_⟩:=List.getElem?_eq_some_iff.1 hx
 exact(h.ext e).elem (i:=i) (by omega) (by omega) (flatGet spTC_len hx)
theorem c97{w:World}{t:Sl}{xs:List SpTD}{t1:Nat×Array Value}{q:SpTD->Bool}(h:Rd w t 5 (xs.flatMap spTC))(hl:xs.length<=1000000)
  (hq:∀(x:SpTD)(W:World),x∈xs->Ext w W->∀R':RV,(∀w',Ext W w'->R' (.bool (q x)) w')->Cx t1.1 { toList:=spTV x::t1.2.toList } W R'):
  Cw 97 #[slV t,.func (.func t1.1) #[] t1.2] w fun v w'=>v=.bool (xs.any q)/\Ext w w':=
 F97_ok t t1 w _ ((c131 h hl hq).use fun v w' ⟨hv,e⟩=>⟨_,hv,by rw[any_idx],e⟩)
theorem c53{w:World}{t:Sl}{l:List SpTD}(h:Rd w t 5 (l.flatMap spTC))(n:Int):Cw 53 #[slV t,iv n] w fun v w'=>∃r,v=.bool r/\(r=true↔FootOk l n)/\Ext w w':=by
 have hn:=rdN spTC_len (by omega) h
 refine F53_ok t n w _ fun b1 w2 a2=>?_
 have e2:Ext w w2:=a2.ch _
 have no:¬FootOk l n->∃r,Value.bool false=.bool r/\(r=true↔FootOk l n)/\Ext w w2:=fun h=>⟨false,rfl,⟨fun h=>(by cases h),fun h'=>absurd h' h⟩,e2⟩
 have q:w2.cell? ⟨b1,0,none⟩=some (iv n):=by rw[cell_of a2.new];rfl
 refine⟨n,q,IfB.dec (fun h1=>⟨n,q,IfB.dec (fun h2=>IfB.dec (fun h3=>?_) fun h3=>no fun h=>by have:=h.l4;omega) fun h2=>no fun h=>h2 h.n3⟩) fun h1=>no fun h=>h1 h.n0⟩
 refine(c97 (t1:=(95,#[.pointer (some ⟨b1,0,none⟩)])) (q:=fun s=>bq (¬(KeyOk s.1 n/\KeyOk s.2.1 n))) (h.ext e2) (by omega) fun x W _ e R' hR=>(c95 x ⟨h1,h2⟩ ⟨_,e.at a2.new⟩).use fun v w' ⟨hv,e'⟩=>hv ▸ hR w' e').use ?_
 rintro _ w6 ⟨rfl,e6⟩
 refine⟨_,rfl,_,rfl,?_,e2.trans e6⟩
 rw[Bool.not_eq_true',any_bq]
 exact⟨fun h=>⟨h1,h2,by omega,h⟩,fun h=>h.all⟩
theorem c98{w:World}{t u:Sl}{l:List SpTD}{args:List Int}(h:Rd w t 5 (l.flatMap spTC))(ha:Rd w u 1 (args.map iv)):
  Cw 98 #[slV t,slV u] w fun v w'=>∃r,v=.bool r/\(r=true↔ArgsOk args/\FootOk l args.length)/\Ext w w':=by
 have hn:=rdI ha
 refine F98_ok t u w _ ((c51 (-1,0) ha).use ?_)
 rintro _ w2 ⟨n,r,rfl,hr,_,e2⟩
 have hk:KeyOk (-1,0) (args.length:Int):=⟨by decide,by show (-1:Int)<_;omega,by decide,by decide⟩
 refine⟨(n,r),rfl,IfB.intro (fun h1=>(c53 (h.ext e2) u.n).use ?_) fun h1=>⟨false,rfl,⟨fun h=>(by cases h),fun h=>?_⟩,e2⟩⟩
 ·rintro _ w5 ⟨r2,rfl,hr2,e5⟩
  rw[hn] at hr2
  exact⟨r2,rfl,r2,rfl,hr2.trans ⟨fun h=>⟨(hr.1 h1).2,h⟩,fun h=>h.2⟩,e2.trans e5⟩
 ·have h1:r=false:=h1
  rw[hr.2 ⟨hk,h.1⟩] at h1;cases h1
def footS(q:SpTD->Bool)(l:List SpTD)(args:List Int):List Spn:=(l.filter q).map fun s=>(keyAt s.1 args,keyAt s.2.1 args)
theorem c101{w:World}{t u:Sl}{l:List SpTD}{args:List Int}{t2:Nat×Array Value}{q:SpTD->Bool}(h:Rd w t 5 (l.flatMap spTC))(ha:Rd w u 1 (args.map iv))(hf:FootOk l args.length)(hao:ArgsOk args)
  (hq:∀(x:SpTD)(W:World)(R':RV),(∀w',Ext W w'->R' (.bool (q x)) w')->Cx t2.1 { toList:=spTV x::t2.2.toList } W R'):
  Cw 101 #[slV t,slV u,.func (.func t2.1) #[] t2.2] w fun v w'=>∃t' os,v=slV t'/\NormS os/\(∀k,hasS os k↔hasS (footS q l args) k)/\OwS w' t' 2 (os.flatMap sv)/\os.length<=4/\Ext w w'/\∀j∈blk t',w.heap.size<=j:=by
 have hn:=rdN spTC_len (by omega) h
 have hl4:=hf.l4
 refine F101_ok t u t2 w _ ⟨fun m x W=>∃(i:Nat)(so:Sl),i<=l.length/\m+i=l.length/\x=(so,(i:Int))/\OwS W so 2 ((footS q (l.take i) args).flatMap sv)/\Ext w W/\∀j∈blk so,w.heap.size<=j,⟨l.length,0,⟨none,0,0⟩,Nat.zero_le _,rfl,rfl,.nil _ _,Ch.refl _ _,by simp[blk]⟩,?_⟩
 rintro m _ W g ⟨i,so,hi,hmi,rfl,hO,hE,hb⟩
 have hfl:(footS q (l.take i) args).length<=i:=by
  unfold footS
  rw[List.length_map]
  exact Nat.le_trans (List.length_filter_le _ _) (by rw[List.length_take];omega)
 have hon:=owsN sv_len (by omega) hO
 unfold F101j1
 refine IfB.dec (fun hlt=>?_) fun hge=>?_
 ·have hi':i<l.length:=by dsimp only at hlt;omega
  have hx:l[i]? =some l[i]:=List.getElem?_eq_getElem hi'
  have hxm:l[i]∈l:=List.getElem_mem hi'
  have htk:=take_succ_get hx
  generalize l[i]=s at hx hxm htk
  obtain⟨b,o,hp,hc⟩:=(h.ext hE).elem (i:=i) (by omega) (by omega) (flatGet spTC_len hx)
  unfold F101k1
  refine⟨b,o,hp,(⟨by omega,by omega⟩:(0:Int)<=(i:Int)/\(i:Int)<(t.n:Int)),spX s,by dsimp only;rw[Int.toNat_natCast];exact hc,fun b11 w12 a12=>⟨rfl,store_all (vs:=spTC s) a12.new rfl (by intro v hv;simp at hv;rcases hv with rfl|rfl|rfl|rfl|rfl<;>rfl) fun w13 u13=>?_⟩⟩
  have e13:Ext W w13:=Ext.fresh a12 u13
  have bx:∀ {W':World},Ext w13 W'->CellsAt W' b11 (0+0) (keyC s.1)/\CellsAt W' b11 (0+2) (keyC s.2.1)/\CellsAt W' b11 0 (spTC s):=fun e=>⟨cellsAt_of (e.at u13.new) fun i v hv=>by
   match i,hv with
   | 0,hv=>exact hv
   | 1,hv=>exact hv,cellsAt_of (e.at u13.new) fun i v hv=>by
   match i,hv with
   | 0,hv=>exact hv
   | 1,hv=>exact hv,boxAll (cs:=spTC s) u13.new e⟩
  refine⟨s.1,(bx (Ch.refl _ _)).1,(c51 s.1 (ha.ext (hE.trans e13))).use ?_⟩
  rintro _ w16 ⟨n1,r1,rfl,hr1,hn1,e16⟩
  have hn1:=hn1 (hr1.2 ⟨(hf.all s hxm).1,hao⟩)
  refine⟨(n1,r1),rfl,s.2.1,(bx e16).2.1,(c51 s.2.1 ((ha.ext (hE.trans e13)).ext e16)).use ?_⟩
  rintro _ w20 ⟨n2,r2,rfl,hr2,hn2,e20⟩
  have hn2:=hn2 (hr2.2 ⟨(hf.all s hxm).2,hao⟩)
  refine⟨(n2,r2),rfl,spX s,(bx (e16.trans e20)).2.2,hq s w20 _ fun w24 e24=>⟨q s,rfl,?_⟩⟩
  have e:=((e13.trans e16).trans e20).trans e24
  have w1:IntKind.i64.wrap ((i:Int)+1)=((i+1:Nat):Int):=by rw[wrap_of (by omega) (by omega)];rfl
  refine IfB.intro (fun h1=>⟨by decide,fun b26 w27 a27=>?_⟩) fun h1=>⟨rfl,m-1,by omega,i+1,so,hi',by omega,by rw[w1],?_,hE.trans e,hb⟩
  ·have e27:=e.trans (a27.ch _)
   refine(hO.ext e27).lit (new:=[iv n1,iv n2]) (T':=71) a27.new rfl (by intro v hv;simp at hv;rcases hv with rfl|rfl<;>rfl) rfl rfl (by omega) (by decide) fun s' w' ho' hn' hC' hbk=>⟨rfl,m-1,by omega,i+1,s',hi',by omega,by rw[w1],?_,(hE.trans e27).chN hC' hb,fun j hj=>?_⟩
   ·unfold footS at ho' ⊢
    rw[htk,List.filter_append,List.map_append,List.flatMap_append]
    have:[s].filter q=[s]:=by simp[h1]
    rw[this]
    simp only[List.map_cons,List.map_nil,List.flatMap_cons,List.flatMap_nil,List.append_nil,<-hn1,<-hn2]
    exact ho'
   ·rcases hbk j hj with h|h
    ·exact hb j h
    ·have:=hE.size;have:=e27.size;omega
  ·unfold footS at hO ⊢
   rw[htk,List.filter_append]
   have:[s].filter q=[]:=by simp[show q s=false from h1]
   rw[this,List.append_nil]
   exact hO.ext e
 ·have hi':i=l.length:=by dsimp only at hge;omega
  subst hi'
  rw[List.take_length] at hO hfl
  refine(c108 hO.rd (by omega)).use ?_
  rintro _ w34 ⟨s35,os,rfl,h1,h2,h3,h4,e34,h6⟩
  exact⟨s35,rfl,s35,os,rfl,h1,h2,h3,by omega,hE.trans e34,fun j hj=>by have:=h6 j hj;have:=hE.size;omega⟩
theorem c99(s:SpTD)(w:World):Cw 99 #[spTV s] w fun v w'=>v=.bool true/\Ext w w':=F99_ok (spX s) w _ fun b1 w2 a2=>⟨rfl,a2.ch _⟩
theorem c100(s:SpTD)(w:World):Cw 100 #[spTV s] w fun v w'=>v=.bool s.2.2/\Ext w w':=F100_ok (spX s) w _ fun b1 w2 a2=>⟨_,boxAt (cs:=spTC s) a2.new 4 (Ch.refl _ _),rfl,a2.ch _⟩
abbrev footR:List SpTD->List Int->List Spn:=footS fun _=>true
abbrev footW:List SpTD->List Int->List Spn:=footS fun s=>s.2.2
theorem c54{w:World}{t u:Sl}{l:List SpTD}{args:List Int}(h:Rd w t 5 (l.flatMap spTC))(ha:Rd w u 1 (args.map iv)):
  Cw 54 #[slV t,slV u] w fun v w'=>∃t1 t2 r os1 os2,v=.tuple #[slV t1,slV t2,.bool r]/\(r=true↔ArgsOk args/\FootOk l args.length)/\(r=false->os1=[]/\os2=[])/\
   (NormS os1/\(r=true->∀k,hasS os1 k↔hasS (footR l args) k)/\OwS w' t1 2 (os1.flatMap sv)/\os1.length<=4)/\(NormS os2/\(r=true->∀k,hasS os2 k↔hasS (footW l args) k)/\OwS w' t2 2 (os2.flatMap sv)/\os2.length<=4)/\Ext w w'/\(∀j∈blk t1,w.heap.size<=j)/\∀j∈blk t2,w.heap.size<=j:=by
 refine F54_ok t u w _ ((c98 h ha).use ?_)
 rintro _ w2 ⟨r,rfl,hr,e2⟩
 have nn:NormS []:=⟨.nil,by simp⟩
 refine⟨r,rfl,IfB.intro (fun h1=>⟨⟨none,0,0⟩,⟨none,0,0⟩,false,[],[],rfl,⟨fun h=>(by cases h),fun h=>?_⟩,fun _=>⟨rfl,rfl⟩,⟨nn,fun h=>(by cases h),.nil _ _,by simp⟩,⟨nn,fun h=>(by cases h),.nil _ _,by simp⟩,e2,by simp[blk],by simp[blk]⟩) fun h1=>?_⟩
 ·have h1:r=false:=by simpa using h1
  rw[hr.2 h] at h1;cases h1
 have hok:=hr.1 (by simpa using h1)
 refine(c101 (t2:=(99,#[])) (q:=fun _=>true) (h.ext e2) (ha.ext e2) hok.2 hok.1 fun x W R' hR=>(c99 x W).use fun v w' ⟨hv,e'⟩=>hv ▸ hR w' e').use ?_
 rintro _ w5 ⟨s6,os1,rfl,a1,a2,a3,a4,e5,a6⟩
 refine⟨s6,rfl,(c101 (t2:=(100,#[])) (q:=fun s=>s.2.2) ((h.ext e2).ext e5) ((ha.ext e2).ext e5) hok.2 hok.1 fun x W R' hR=>(c100 x W).use fun v w' ⟨hv,e'⟩=>hv ▸ hR w' e').use ?_⟩
 rintro _ w8 ⟨s9,os2,rfl,b1,b2,b3,b4,e8,b6⟩
 exact⟨s9,rfl,s6,s9,true,os1,os2,rfl,⟨fun _=>hok,fun _=>rfl⟩,fun h=>(by cases h),⟨a1,fun _=>a2,a3.ext e8,a4⟩,⟨b1,fun _=>b2,b3,b4⟩,(e2.trans e5).trans e8,fun j hj=>by have:=a6 j hj;have:=e2.size;omega,fun j hj=>by have:=b6 j hj;have:=e2.size;have:=e5.size;omega⟩
theorem F55_ok(t0:Sl)(t1:Sl)(w:World)(R:RV)(h:Cx 102 #[Qy t0,Qy t1] w fun v1 w2=>∃s3:Sl,v1=Qy s3/\R (Value.bool ((s3.2:Int) == 0)) w2):Cw 55 #[Qy t0,Qy t1] w R:=
 ckF Tryz.func55 .nil h (by kernel_rfl) (by kernel_rfl)
theorem F102_ok(t0:Sl)(t1:Sl)(w:World)(R:RV)(h:1*1<=16777216/\AllocP w (Obj.cells #[Qy t1] 24) fun b1 w2=>Qu' 50 #[Value.slice (some ⟨b1,0,none⟩) 1 1] w2 fun s5 w4=>Qu' 133 #[Qy s5] w4 fun s8 w7=>Qu' 132 #[Qy t0,Qy s8] w7 fun s11 w10=>R (Qy s11) w10):Cw 102 #[Qy t0,Qy t1] w R:=
 ckF Tryz.func102 .nil h (by kernel_rfl) (by kernel_rfl)
theorem F132_ok(t0:Sl)(t1:Sl)(w:World)(R:RV)(h:1*1<=16777216/\AllocP w (Obj.cells #[Qy t0] 24) fun b1 w2=>Qu' 50 #[Value.slice (some ⟨b1,0,none⟩) 1 1] w2 fun s5 w4=>1*1<=16777216/\AllocP w4 (Obj.cells #[Qy t1] 24) fun b6 w7=>Qu' 50 #[Value.slice (some ⟨b6,0,none⟩) 1 1] w7 fun s10 w9=>Cx 49 #[Qy s5,Qy s10] w9 fun v11 w12=>∃(x13:Nat×Array Value),v11=Value.func (Fn.func x13.1) #[] x13.2/\Qu' 151 #[Value.func (Fn.func x13.1) #[] x13.2] w12 fun s16 w15=>1*1<=16777216/\AllocP w15 (Obj.cells #[Qy s16] 24) fun b17 w18=>Qu' 50 #[Value.slice (some ⟨b17,0,none⟩) 1 1] w18 fun s21 w20=>R (Qy s21) w20):Cw 132 #[Qy t0,Qy t1] w R:=
 ckF Tryz.func132 .nil h (by kernel_rfl) (by kernel_rfl)
def F133j1(t0:Sl)(R:RV)(y1:Nat->Sl×Int×Int->World->Prop)(b3:Nat)(x4:Sl×Int×Int)(w5:World):Prop:=IfB (decide (x4.snd.snd<(t0.n:Int))) (Qx t0.1 x4.snd.2 (t0.2:Int) fun b8 b9=>∃(x10:Int×Int),CellsAt w5 b8 (b9+Int.toNat x4.snd.2*2) [Qz x10.1,Qz x10.2]/\AllocP w5 (Obj.cells #[Qz 0,Qz 0] 71) fun b11 w12=>#[Qz x10.1,Qz x10.2].size=2/\StoreP w12 b11 0 [Qz x10.1,Qz x10.2] fun w13=>Qi w13 b11 (0+0) fun n14=>1*2<=16777216/\AllocP w13 (Obj.cells #[Qz x4.snd.1,Qz (IntKind.i64.wrap (n14-1))] 71) fun b15 w16=>∃(l17:List Value),ReadC w16 (some ⟨b15,0,none⟩) (1*2) l17/\AppendP tt71 71 w16 x4.fst.1 x4.fst.2 x4.fst.3 1 l17 fun s18 w19=>Qi w19 b11 (0+1) fun n20=>([]:List Df)=[]/\∃b21:Nat,b21<b3/\y1 b21 ({ p:=s18.1,n:=s18.2,c:=s18.3 },IntKind.i64.wrap (n20+1),IntKind.i64.wrap (x4.snd.2+1)) w19) (1*2<=16777216/\AllocP w5 (Obj.cells #[Qz x4.snd.1,Qz 999] 71) fun b22 w23=>∃(l24:List Value),ReadC w23 (some ⟨b22,0,none⟩) (1*2) l24/\AppendP tt71 71 w23 x4.fst.1 x4.fst.2 x4.fst.3 1 l24 fun s25 w26=>1*1<=16777216/\AllocP w26 (Obj.cells #[Qy s25] 24) fun b27 w28=>Qu' 50 #[Value.slice (some ⟨b27,0,none⟩) 1 1] w28 fun s31 w30=>R (Qy s31) w30)
theorem F133_ok(t0:Sl)(w:World)(R:RV)(h:Ql (α:=Sl×Int×Int) ({ p:=none,n:=0,c:=0 },0,0) w fun y1 b3 x4 w5=>(F133j1 t0 R y1 b3 x4 w5)):Cw 133 #[Qy t0] w R:=
 ckF Tryz.func133 (nd (nd (nd (.node (nd (.loop [(3,.one (.sl)),(4,oi),(9,oi)] (rg [3,4,6,6,9,24]) .nil)) .nil)))) h (by kernel_rfl) (by kernel_rfl)
theorem F105_ok(t0:Int)(w:World)(R:RV)(h:1*2<=16777216/\AllocP w (Obj.cells #[Qz t0,Qz t0] 71) fun b1 w2=>1*1<=16777216/\AllocP w2 (Obj.cells #[Value.slice (some ⟨b1,0,none⟩) 1 1] 24) fun b3 w4=>Qu' 50 #[Value.slice (some ⟨b3,0,none⟩) 1 1] w4 fun s7 w6=>R (Qy s7) w6):Cw 105 #[Qz t0] w R:=
 ckF Tryz.func105 .nil h (by kernel_rfl) (by kernel_rfl)
def F109j2(y6:Nat->Sl×Int->World->Prop)(b8:Nat)(x9:Sl×Int)(b16:Nat)(y20:Nat->Sl×Int->World->Prop)(b22:Nat)(x23:Sl×Int)(w24:World):Prop:=Qi w24 b16 (0+1) fun n27=>IfB (decide (x23.snd<=n27)) (1*1<=16777216/\AllocP w24 (Obj.cells #[Qz x23.2] 3) fun b28 w29=>∃(l30:List Value),ReadC w29 (some ⟨b28,0,none⟩) (1*1) l30/\AppendP tt3 3 w29 x23.fst.1 x23.fst.2 x23.fst.3 1 l30 fun s31 w32=>([]:List Df)=[]/\∃b33:Nat,b33<b22/\y20 b33 ({ p:=s31.1,n:=s31.2,c:=s31.3 },IntKind.i64.wrap (x23.2+1)) w32) (([]:List Df)=[]/\∃b34:Nat,b34<b8/\y6 b34 ({ p:=x23.fst.1,n:=x23.fst.2,c:=x23.fst.3 },IntKind.i64.wrap (x9.2+1)) w24)
def F109j1(R:RV)(s5:Sl)(y6:Nat->Sl×Int->World->Prop)(b8:Nat)(x9:Sl×Int)(w10:World):Prop:=IfB (decide (x9.snd<(s5.n:Int))) (Qx s5.1 x9.2 (s5.2:Int) fun b13 b14=>∃(x15:Int×Int),CellsAt w10 b13 (b14+x9.2.toNat*2) [Qz x15.1,Qz x15.2]/\AllocP w10 (Obj.cells #[Qz 0,Qz 0] 71) fun b16 w17=>#[Qz x15.1,Qz x15.2].size=2/\StoreP w17 b16 0 [Qz x15.1,Qz x15.2] fun w18=>Qi w18 b16 (0+0) fun n19=>Ql (α:=Sl×Int) ({ p:=x9.fst.1,n:=x9.fst.2,c:=x9.fst.3 },n19) w18 fun y20 b22 x23 w24=>(F109j2 y6 b8 x9 b16 y20 b22 x23 w24)) (R (Qy x9.fst) w10)
theorem F109_ok(t0:Sl)(w:World)(R:RV)(h:1*1<=16777216/\AllocP w (Obj.cells #[Qy t0] 24) fun b1 w2=>Qu' 50 #[Value.slice (some ⟨b1,0,none⟩) 1 1] w2 fun s5 w4=>Ql (α:=Sl×Int) ({ p:=none,n:=0,c:=0 },0) w4 fun y6 b8 x9 w10=>(F109j1 R s5 y6 b8 x9 w10)):Cw 109 #[Qy t0] w R:=
 ckF Tryz.func109 (nd (nd (.node (nd (.loop [(3,.one (.sl)),(11,oi)] (rg [3,3,5,6,11,27]) (nd (nd (.node (nd (nd (.loop [(3,.one (.sl)),(6,oi)] (rg [3,3,6,6,17,26]) .nil))) .nil))))) .nil))) h (by kernel_rfl) (by kernel_rfl)
theorem F151_ok(t0:Nat×Array Value)(w:World)(R:RV)(h:Cx 166 #[Value.slice none 0 0,Value.func (Fn.func t0.1) #[] t0.2] w fun v1 w2=>∃s3:Sl,v1=Qy s3/\R (Qy s3) w2):Cw 151 #[Value.func (Fn.func t0.1) #[] t0.2] w R:=
 ckF Tryz.func151 .nil h (by kernel_rfl) (by kernel_rfl)
noncomputable def R166_0:Code:=codeAt [1,0,1,0] (bodyOf Tryz.f166)
def R166_0a:An:=.nil
theorem R166_0ok1:okC tb Tryz.f166.ntmps (rA R166_0) .nil=true:=by kernel_rfl
theorem R166_0ok2:okC tb Tryz.f166.ntmps (rB R166_0) R166_0a=true:=by kernel_rfl
theorem R166_0okp:(rP R166_0).toList.all (fun p=>Nat.blt p Tryz.f166.ntmps)=true:=by kernel_rfl
theorem F166_ok(t0:Sl)(t1:Nat×Array Value)(w:World)(R:RV)(h:AllocP w (Obj.cells #[Qy t0] 24) fun b1 w2=>∀(y3:Nat->Value),RangeP Tryz.prog tb (nat_lit 13) none R166_0a (rG R166_0) (rP R166_0) (rA R166_0) (rB R166_0) (frC y3 [(2,Value.pointer (some ⟨b1,0,none⟩)),(4,Value.slice none 0 0),(6,Value.func (Fn.func t1.1) #[] t1.2)]) [] w2 (fun(l4:List Df) (w5:World)=>Qs w5 b1 0 fun s6=>marksP w5 l4 fun w7=>R (Qy s6) w7) (fun(l8:List Df) (w9:World)=>marksP w9 l8 fun w10=>R (Value.slice none 0 0) w10) fun(b11:Nat) (l12:List Df) (w13:World)=>match b11.beq 0 with|true=>Qs w13 b1 0 fun s15=>marksP w13 l12 fun w16=>R (Qy s15) w16|false=>False):Cw 166 #[Qy t0,Value.func (Fn.func t1.1) #[] t1.2] w R:=
 ckF Tryz.func166 (nd (.node (nd (.rng [(2,.one (.box)),(4,.one (.sl)),(6,.one (.clo))] .nil)) .nil)) h (by kernel_rfl) (by kernel_rfl)
theorem F166b0_ok(t2:Nat)(t4:Sl)(t6:Nat×Array Value)(x7:Int×Int)(l D n₀:Nat)(Jn:World->Prop)(Jx:Code->World->Prop)(W:World){g:Nat->Value}(h:AllocP W (Obj.cells #[Qz 0,Qz 0] 71) fun b1 w2=>#[Qz x7.1,Qz x7.2].size=2/\StoreP w2 b1 0 [Qz x7.1,Qz x7.2] fun w3=>([]:List Df)=[]/\(w3.1[l]? =W.1[l]? /\w3.1[D]? =W.1[D]?)/\∀(w12:World),Stb n₀ w3 w12->Its w3 w12->(∃y15:Loop,w12.1[l]? =some (Obj.loop y15))->∃s19:Sl,w12.cell? ⟨t2,0,none⟩=some (Qy s19)/\∃(x20:Int×Int),CellsAt w12 b1 0 [Qz x20.1,Qz x20.2]/\1*2<=16777216/\AllocP w12 (Obj.cells #[Qz x20.1,Qz x20.2] 71) fun b21 w22=>∃(l23:List Value),ReadC w22 (some ⟨b21,0,none⟩) (1*2) l23/\AppendP tt71 71 w22 s19.1 s19.2 s19.3 1 l23 fun s24 w25=>#[Qy s24].size=1/\StoreP w25 t2 0 [Qy s24] fun w26=>(w26.1[l]? =w12.1[l]? /\w26.1[D]? =w12.1[D]?)/\Jn w26):
  BodyP Tryz.prog tb Tryz.f166.ntmps l D n₀ R166_0a (rP R166_0) (rA R166_0) (rB R166_0) (frC g [(2,Value.pointer (some ⟨t2,0,none⟩)),(4,Value.slice t4.1 t4.2 t4.3),(6,Value.func (Fn.func t6.1) #[] t6.2)]) Jn Jx [Value.agg #[Value.int IntKind.i64 x7.1,Value.int IntKind.i64 x7.2]] W:=
 Eq.mp (by kernel_rfl) h
def F40j1(t0:Sl)(t1:Sl)(R:RV)(y1:Nat->Int->World->Prop)(b3:Nat)(n4:Int)(w5:World):Prop:=IfB (decide (n4<(t0.n:Int))) (Qx t0.1 n4 (t0.2:Int) fun b8 b9=>∃(x10:Int×Int),CellsAt w5.drew b8 (b9+n4.toNat*2) [Qz x10.1,Qz x10.2]/\Qx t1.1 n4 (t1.2:Int) fun b11 b12=>∃(x13:Int×Int),CellsAt w5.drew b11 (b12+n4.toNat*2) [Qz x13.1,Qz x13.2]/\∃t14:Bool,EqAt Tryz.prog 71 (Value.agg #[Qz x10.1,Qz x10.2]) (Value.agg #[Qz x13.1,Qz x13.2]) t14/\IfB (!t14) (R (Value.bool false) w5.drew) (([]:List Df)=[]/\∃b15:Nat,b15<b3/\y1 b15 (IntKind.i64.wrap (n4+1)) w5.drew)) (R (Value.bool true) w5)
theorem F40_ok(t0:Sl)(t1:Sl)(w:World)(R:RV)(h:IfB ((t0.2:Int) != (t1.2:Int)) (R (Value.bool false) w) (Ql (α:=Int) 0 w fun y1 b3 n4 w5=>(F40j1 t0 t1 R y1 b3 n4 w5))):Cw 40 #[Qy t0,Qy t1] w R:=
 ckF Tryz.func40 (nd (nd (.node (nd (.loop [(5,oi)] (rg [4,5,11,25]) (nd (.node (.node (.draw (sts [0,1,2,3,4,5,6,7,8] .fin)) .nil) .nil)))) .nil))) h (by kernel_rfl) (by kernel_rfl)
theorem F31_ok(t0:Sl)(t1:Sl)(t2:Sl)(t3:Sl)(w:World)(R:RV)(h:Cx 54 #[Qy t0,Qy t1] w fun v1 w2=>∃(x3:Sl×Sl×Bool),v1=Value.tuple #[Qy x3.fst,Qy x3.snd.fst,Value.bool x3.snd.2]/\IfB x3.snd.2 (Qv' 55 #[Qy t2,Qy x3.fst] w2 fun t6 w5=>IfB t6 (Qv' 55 #[Qy t3,Qy x3.snd.fst] w5 fun t9 w8=>R (Value.bool t9) w8) (R (Value.bool false) w5)) (R (Value.bool false) w2)):Cw 31 #[Qy t0,Qy t1,Qy t2,Qy t3] w R:=
 ckF Tryz.func31 .nil h (by kernel_rfl) (by kernel_rfl)
theorem normS_nil{os:List Spn}(h:NormS os):os=[]↔∀k,¬hasS os k:=by
 refine⟨fun e k=>by subst e;simp[hasS],fun hk=>?_⟩
 cases os with
 | nil=>rfl
 | cons s l=>exact absurd ⟨s,List.mem_cons_self ..,h.2 s (List.mem_cons_self ..),Int.le_refl _,(h.2 s (List.mem_cons_self ..)).2.1⟩ (hk s.1)
theorem NormS.tail{s:Spn}{l:List Spn}(h:NormS (s::l)):NormS l:=⟨(List.pairwise_cons.1 h.1).2,fun x hx=>h.2 x (List.mem_cons_of_mem _ hx)⟩
theorem normS_ext:∀ {a b:List Spn},NormS a->NormS b->(∀k,hasS a k↔hasS b k)->a=b
 | [],b,_,hb,h=>((normS_nil hb).2 fun k hk=>by have:=(h k).2 hk;simp[hasS] at this).symm
 | s::l,[],ha,_,h=>by
  have:=(normS_nil ha).2 fun k hk=>by have:=(h k).1 hk;simp[hasS] at this
  cases this
 | s::l,t::m,ha,hb,h=>by
  have hs:=ha.2 s (List.mem_cons_self ..)
  have ht:=hb.2 t (List.mem_cons_self ..)
  have hl:=(List.pairwise_cons.1 ha.1).1
  have hm:=(List.pairwise_cons.1 hb.1).1
  have hlm:=fun x hx=>ha.2 x (List.mem_cons_of_mem s hx)
  have hmm:=fun x hx=>hb.2 x (List.mem_cons_of_mem t hx)
  unfold mayS at hs ht hlm hmm
  have inA:∀k,hasS (s::l) k↔(s.1<=k/\k<=s.2)\/hasS l k:=fun k=>by
   simp only[hasS,List.mem_cons]
   exact⟨fun⟨x,hx,h1,h2⟩=>hx.elim (fun e=>.inl (e ▸ h2)) fun hx=>.inr ⟨x,hx,h1,h2⟩,fun h=>h.elim (fun h=>⟨s,.inl rfl,hs,h⟩) fun⟨x,hx,h⟩=>⟨x,.inr hx,h⟩⟩
  have inB:∀k,hasS (t::m) k↔(t.1<=k/\k<=t.2)\/hasS m k:=fun k=>by
   simp only[hasS,List.mem_cons]
   exact⟨fun⟨x,hx,h1,h2⟩=>hx.elim (fun e=>.inl (e ▸ h2)) fun hx=>.inr ⟨x,hx,h1,h2⟩,fun h=>h.elim (fun h=>⟨t,.inl rfl,ht,h⟩) fun⟨x,hx,h⟩=>⟨x,.inr hx,h⟩⟩
  have lA:∀k,hasS l k->s.2+1<k:=fun k ⟨x,hx,_,h1,_⟩=>by have:=hl x hx;omega
  have lB:∀k,hasS m k->t.2+1<k:=fun k ⟨x,hx,_,h1,_⟩=>by have:=hm x hx;omega
  have h1:s.1=t.1:=by
   have a:=(inB s.1).1 ((h s.1).1 ((inA s.1).2 (.inl ⟨Int.le_refl _,hs.2.1⟩)))
   have b:=(inA t.1).1 ((h t.1).2 ((inB t.1).2 (.inl ⟨Int.le_refl _,ht.2.1⟩)))
   rcases a with a|a<;>rcases b with b|b
   ·omega
   ·have:=lA _ b;omega
   ·have:=lB _ a;omega
   ·have:=lA _ b;have:=lB _ a;omega
  have h2:s.2=t.2:=by
   rcases Int.lt_trichotomy s.2 t.2 with hlt|e|hgt
   ·have a:=(inA (s.2+1)).1 ((h (s.2+1)).2 ((inB (s.2+1)).2 (.inl ⟨by omega,by omega⟩)))
    rcases a with a|a
    ·omega
    ·have:=lA _ a;omega
   ·exact e
   ·have a:=(inB (t.2+1)).1 ((h (t.2+1)).1 ((inA (t.2+1)).2 (.inl ⟨by omega,by omega⟩)))
    rcases a with a|a
    ·omega
    ·have:=lB _ a;omega
  have e:s=t:=Prod.ext h1 h2
  subst e
  congr 1
  refine normS_ext ha.tail hb.tail fun k=>⟨fun hk=>?_,fun hk=>?_⟩
  ·rcases(inB k).1 ((h k).1 ((inA k).2 (.inr hk))) with a|a
   ·have:=lA _ hk;omega
   ·exact a
  ·rcases(inA k).1 ((h k).2 ((inB k).2 (.inr hk))) with a|a
   ·have:=lB _ hk;omega
   ·exact a
theorem normS_len{os:List Spn}(h:NormS os):os.length<=1000:=by
 have key:∀(l:List Spn)(f:Int),NormS l->(∀x∈l,f<=x.1)->0<=f->(l.length:Int)<=max 0 (1000-f):=by
  intro l
  induction l with
  | nil=>intro f _ _ _;simp;omega
  | cons s l ih=>
   intro f hn hf h0
   have hs:=hn.2 s (List.mem_cons_self ..)
   unfold mayS at hs
   have h1:=hf s (List.mem_cons_self ..)
   have:=ih (s.1+1) hn.tail (fun x hx=>by have:=(List.pairwise_cons.1 hn.1).1 x hx;omega) (by omega)
   rw[List.length_cons]
   omega
 have:=key os 0 h (fun x hx=>(h.2 x hx).1) (Int.le_refl _)
 omega
def gapL:Int->List Spn->List Spn
 | _,[]=>[]
 | f,s::l=>(f,s.1-1)::gapL (s.2+1) l
def lastF:Int->List Spn->Int
 | f,[]=>f
 | _,s::l=>lastF (s.2+1) l
theorem gapL_snoc:∀(l:List Spn)(f:Int)(s:Spn),gapL f (l++[s])=gapL f l++[(lastF f l,s.1-1)]
 | [],_,_=>rfl
 | t::l,f,s=>by simp[gapL,lastF,gapL_snoc l]
theorem lastF_snoc:∀(l:List Spn)(f:Int)(s:Spn),lastF f (l++[s])=s.2+1
 | [],_,_=>rfl
 | t::l,f,s=>by simp[lastF,lastF_snoc l]
theorem gapL_len:∀(l:List Spn)(f:Int),(gapL f l).length=l.length
 | [],_=>rfl
 | t::l,f=>by simp[gapL,gapL_len l]
theorem gap_has:∀ {l:List Spn}{f:Int},NormS l->0<=f->(∀x∈l,f<=x.1)->∀k,hasS (gapL f l++[(lastF f l,999)]) k↔(f<=k/\k<=999)/\¬hasS l k
 | [],f,_,h0,_,k=>by
  simp only[gapL,lastF,List.nil_append,hasS_one]
  unfold mayS
  have:¬hasS [] k:=by simp[hasS]
  constructor
  ·rintro⟨_,h⟩;exact⟨h,this⟩
  ·rintro⟨h,_⟩;exact⟨⟨h0,by dsimp only;omega,Int.le_refl _⟩,h⟩
 | s::l,f,hn,h0,hf,k=>by
  have hs:=hn.2 s (List.mem_cons_self ..)
  unfold mayS at hs
  have hl:=(List.pairwise_cons.1 hn.1).1
  have ih:=gap_has (l:=l) (f:=s.2+1) hn.tail (by omega) (fun x hx=>by have:=hl x hx;omega) k
  have e:gapL f (s::l)++[(lastF f (s::l),999)]=[(f,s.1-1)]++(gapL (s.2+1) l++[(lastF (s.2+1) l,999)]):=rfl
  have e2:(s::l:List Spn)=[s]++l:=rfl
  have h1:=hf s (List.mem_cons_self ..)
  have far:hasS l k->s.2+1<k:=fun⟨x,hx,_,h1,_⟩=>by have:=hl x hx;omega
  rw[e,hasS_append,ih,e2,hasS_append,hasS_one,hasS_one]
  unfold mayS
  dsimp only
  constructor
  ·rintro(⟨_,h⟩|⟨h,hn⟩)
   ·refine⟨by omega,?_⟩
    rintro(⟨_,h'⟩|h')
    ·omega
    ·have:=far h';omega
   ·refine⟨by omega,?_⟩
    rintro(⟨_,h'⟩|h')
    ·omega
    ·exact hn h'
  ·rintro⟨h,hn⟩
   by_cases hk:k<s.1
   ·exact .inl ⟨⟨h0,by omega,by omega⟩,by omega⟩
   ·refine .inr ⟨⟨?_,h.2⟩,fun h'=>hn (.inr h')⟩
    have:¬k<=s.2:=fun h'=>hn (.inl ⟨hs,by omega,h'⟩)
    omega
theorem c105(k:Int)(w:World):Cw 105 #[iv k] w fun v w'=>∃t' os,v=slV t'/\NormS os/\(∀j,hasS os j↔(0<=k/\k<=999)/\j=k)/\OwS w' t' 2 (os.flatMap sv)/\os.length<=1/\Ext w w'/\∀j∈blk t',w.heap.size<=j:=by
 refine F105_ok k w _ ⟨by decide,fun b1 w2 h2=>⟨by decide,?_⟩⟩
 have e2:Ext w w2:=h2.ch _
 refine plain1 (s:=⟨some ⟨b1,0,none⟩,1,1⟩) (xs:=[(k,k)]) (OwS.new (n:=1) (sz:=2) (cs:=[(k,k)].flatMap sv) h2 rfl).rd (by simp) fun t' os w' hN hk ho hl e hb=>?_
 refine⟨t',rfl,t',os,rfl,hN,fun j=>?_,ho,hl,e2.trans e,fun j hj=>by have:=hb j hj;have:=e2.size;omega⟩
 rw[hk,hasS_one]
 unfold mayS
 dsimp only
 omega
theorem meetL_len{ls bs:List Spn}:(meetL ls bs).length<=ls.length*bs.length:=by
 induction ls with
 | nil=>simp[meetL]
 | cons x l ih=>
  have:meetL (x::l) bs=meetRow x bs++meetL l bs:=rfl
  rw[this,List.length_append,List.length_cons,Nat.succ_mul]
  have h1:(meetRow x bs).length<=bs.length:=by unfold meetRow;exact Nat.le_trans (List.length_filter_le _ _) (by simp)
  omega
theorem meetL_has{ls bs:List Spn}(ha:∀x∈ls,mayS x)(hb:∀x∈bs,mayS x)(k:Int):hasS (meetL ls bs) k↔hasS ls k/\hasS bs k:=by
 constructor
 ·rintro⟨s,hs,hm,h1,h2⟩
  obtain⟨x,hx,hs⟩:=List.mem_flatMap.1 hs
  obtain⟨hs,hd⟩:=List.mem_filter.1 hs
  obtain⟨y,hy,rfl⟩:=List.mem_map.1 hs
  unfold bothS at h1 h2;dsimp only at h1 h2
  refine⟨⟨x,hx,ha x hx,?_⟩,⟨y,hy,hb y hy,?_⟩⟩<;>(split at h1<;>split at h2<;>omega)
 ·rintro⟨⟨x,hx,hmx,h1,h2⟩,⟨y,hy,hmy,h3,h4⟩⟩
  unfold mayS at hmx hmy
  refine⟨bothS x y,List.mem_flatMap.2 ⟨x,hx,List.mem_filter.2 ⟨List.mem_map.2 ⟨y,hy,rfl⟩,?_⟩⟩,?_,?_⟩
  ·simp only[decide_eq_true_eq];unfold bothS;dsimp only;split<;>split<;>omega
  ·unfold mayS bothS;dsimp only;split<;>split<;>omega
  ·unfold bothS;dsimp only;split<;>split<;>omega
theorem c166{w:World}{p1 p3:Nat}{s7 s12:Sl}{os1 os2:List Spn}(hI:InvM p1 p3 s7 s12 os1 os2 w)(hl1:os1.length<=1000)(hl2:os2.length<=1000):
  Cw 166 #[.slice none 0 0,.func (.func 81) #[] #[.pointer (some ⟨p1,0,none⟩),.pointer (some ⟨p3,0,none⟩)]] w fun v w'=>∃t,v=slV t/\OwS w' t 2 ((meetL os1 os2).flatMap sv)/\Ext w w'/\∀j∈blk t,w.heap.size<=j:=by
 refine F166_ok ⟨none,0,0⟩ (81,#[.pointer (some ⟨p1,0,none⟩),.pointer (some ⟨p3,0,none⟩)]) w _ ?_
 intro b2 w2 h2 g
 have e2:Ext w w2:=h2.ch _
 have hs2:=h2.size
 have hh2:=h2.here
 have hml:(meetL os1 os2).length<=1000000:=Nat.le_trans meetL_len (Nat.mul_le_mul hl1 hl2)
 let G:List Spn->World->Prop:=fun pre W=>(∃post,pre++post=meetL os1 os2)/\InvM p1 p3 s7 s12 os1 os2 W/\∃t:Sl,(∃T,W.heap[b2]? =some (.cells #[slV t] T (0,0)))/\OwS W t 2 (pre.flatMap sv)/\(∀j∈blk t,w2.heap.size+2<=j)/\Ch (fun i=>w.heap.size<=i) w W
 let U:World->Nat->Prop:=fun W i=>∃(t:Sl)(T:TypeId),W.heap[b2]? =some (.cells #[slV t] T (0,0))/\i∈blk t
 have uq:∀ {W:World}{t t':Sl}{T T':TypeId},W.heap[b2]? =some (.cells #[slV t] T (0,0))->W.heap[b2]? =some (.cells #[slV t'] T' (0,0))->blk t=blk t':=fun h h'=>by
  rw[h] at h'
  simp only[Option.some.injEq,Obj.cells.injEq,Array.mk.injEq,List.cons.injEq,Value.slice.injEq] at h'
  unfold blk
  rw[h'.1.1.1]
 have hb2:b2<w2.heap.size:=by omega
 have icm:∀ {F:Nat->Prop}{A B:World},InvM p1 p3 s7 s12 os1 os2 A->Ch F A B->(∀i,F i->w.heap.size<=i)->InvM p1 p3 s7 s12 os1 os2 B:=fun⟨⟨T,h1⟩,⟨T',h2⟩,h3,h4⟩ hc hF=>by
  obtain⟨Ta,ha⟩:=hI.a
  obtain⟨Tb,hb⟩:=hI.b
  have la:=heap_lt ha
  have lb:=heap_lt hb
  exact⟨⟨T,hc.at h1 fun h=>by have:=hF _ h;omega⟩,⟨T',hc.at h2 fun h=>by have:=hF _ h;omega⟩,h3.ch0 hc fun h0 b hb hf=>by(have:=rd_lt hI.ra (by omega) h0 b hb;have:=hF b hf;omega),h4.ch0 hc fun h0 b hb hf=>by(have:=rd_lt hI.rb (by omega) h0 b hb;have:=hF b hf;omega)⟩
 refine range_noneU tbOk mixed (gf:=81) (lb:=#[.pointer (some ⟨p1,0,none⟩),.pointer (some ⟨p3,0,none⟩)]) rfl (itM p1 p3 s7 s12 os1 os2 (by omega) (by omega)) R166_0ok1 R166_0ok2 R166_0okp (fun _=>rfl)
  U (fun W W' hS i ⟨t,T,h,hi⟩=>⟨t,T,by rw[<-hS.low b2 hb2];exact h,hi⟩) G (fun _ _ _=>False) ?_ (fun _ _ _ _ h=>h.elim) ?_ (fun h=>by cases h) ?_ ?_ ?_ ?_ (fun _ _ _ h=>h.elim)
 ·rintro pre A B ⟨h1,h3,t,⟨T,h4⟩,h5,h6,h7⟩ hS
  exact⟨h1,h3.stb hS,t,⟨T,hS.keep _ _ h4 rfl⟩,h5.stb hS,h6,h7.then (.ofStb hS) fun i _ hi=>by omega⟩
 ·rintro pre W ⟨_,h3,_⟩;exact h3
 ·rintro pre W ⟨_,_,t,⟨T,h4⟩,h5,h6,_⟩ i ⟨t',T',h',hi⟩
  rw[<-uq h4 h'] at hi
  exact h5.lt i hi
 ·exact⟨⟨_,rfl⟩,icm hI e2 fun _ h=>h.elim,⟨none,0,0⟩,⟨_,h2.new⟩,.nil _ _,by simp[blk],e2.mono fun _ _ h=>h.elim⟩
 ·rintro pre x W ⟨_,hJ,t,⟨T,hb⟩,ho,hbl,hC⟩ ⟨post,hx⟩ hW
  refine F166b0_ok b2 ⟨none,0,0⟩ (81,#[.pointer (some ⟨p1,0,none⟩),.pointer (some ⟨p3,0,none⟩)]) x _ _ _ _ _ W ?_
  refine boxSp rfl fun c1 w3 hc1 hs3 h3 e3 S3=>⟨rfl,⟨e3.old _ (by omega) id,e3.old _ (by omega) id⟩,fun w12 hS hI0 hL=>?_⟩
  have H:=hS.keep _ _ (e3.at hb) rfl
  have ho12:=(ho.ext e3).stb hS
  have hJ12:=(icm hJ e3 fun _ h=>h.elim).stb hS
  have hC12:Ch (fun i=>w.heap.size<=i) w w12:=(hC.then e3 fun _ _ h=>h.elim).then (.ofStb hS) fun i _ hi=>by omega
  have hs12:=hS.size
  have htn:t.n=pre.length:=owsN sv_len (by omega) ho
  have hpl:pre.length+1<=1000000:=by
   have:=congrArg List.length hx
   rw[List.length_append,List.length_cons] at this
   omega
  refine⟨t,by rw[cell_of H];rfl,x,cellsAt_of (hS.keep _ _ h3 rfl) fun i v hv=>by simpa using hv,by decide,fun b21 w22 h22=>?_⟩
  have e22:Ext w12 w22:=h22.ch _
  refine(ho12.ext e22).lit (new:=sv x) (T':=71) h22.new rfl (sv_one x) rfl rfl (by omega) (by decide) fun s' w24 ho' hn' hc' hb'=>?_
  have hne:∀i,i<w2.heap.size+2->¬i∈blk t:=fun i hi h=>by have:=hbl i h;omega
  have H24:=hc'.at (e22.at H) (hne _ (by omega))
  refine⟨rfl,store_one H24 (by simp) rfl fun w25 h25=>?_⟩
  have hc25:Ch (fun i=>i=b2\/i∈blk t) w12 w25:=(((e22.mono fun _ _ h=>h.elim).then hc' fun i _ h=>.inr h).then h25.ch fun i _ h=>.inl h)
  have hb2':∀j∈blk s',w2.heap.size+2<=j:=fun j hj=>by
   rcases hb' j hj with h|h
   ·exact hbl j h
   ·have:=e22.size;omega
  have far:∀i,i<w2.heap.size+2->i≠b2->¬(i=b2\/i∈blk t):=fun i hi hne' h=>h.elim hne' fun h=>hne i hi h
  refine⟨⟨hc25.old _ (by omega) (far _ (by omega) (by omega)),hc25.old _ (by omega) (far _ (by omega) (by omega))⟩,
   ⟨⟨post,by rw[<-hx];simp⟩,icm hJ12 hc25 (fun i hi=>hi.elim (fun e=>by omega) fun h=>by have:=hbl i h;omega),s',⟨_,h25.new⟩,?_,hb2',?_⟩,
   ((Its.ch e3 fun _ h=>h.elim).trans hI0).trans (Its.ch hc25 fun i hi=>hi.elim (fun e=>e ▸ notIt H) (fun h=>ho12.blkIt h)),?_,?_⟩
  ·have:=ho'.ch h25.ch fun j hj e=>by have:=hb2' j hj;omega
   rw[List.flatMap_append];simpa using this
  ·exact hC12.then hc25 fun i hi h=>by
    rcases h with h|h
    ·omega
    ·have:=hbl _ h;omega
  ·intro i o hi hU ho hk
   refine hc25.at (hS.keep _ _ (e3.at ho) hk) fun h=>?_
   rcases h with h|h
   ·omega
   ·exact hU ⟨t,T,hb,h⟩
  ·rintro i ⟨t',T',h',hi⟩
   rw[<-uq h25.new h'] at hi
   rcases hb' i hi with h|h
   ·exact .inl ⟨t,T,hb,h⟩
   ·have:=e22.size;have:=e3.size;exact .inr (by omega)
 ·rintro xs W rfl ⟨_,hJ,t,⟨T,hb⟩,ho,hbl,hC⟩ hD
  refine⟨t,by rw[cell_of hb];rfl,marks_one hD fun w' hu=>⟨t,rfl,?_,?_,fun j hj=>by have:=hbl j hj;omega⟩⟩
  ·refine ho.ch hu.ch fun j hj e=>?_
   have:=hbl j hj;omega
  ·exact⟨hC.rest.trans hu.rest,by rw[hu.size];exact hC.size,fun i hi _=>by rw[hu.old i (by omega)];exact hC.old i hi (by omega)⟩
theorem c151{w:World}{p1 p3:Nat}{s7 s12:Sl}{os1 os2:List Spn}(hI:InvM p1 p3 s7 s12 os1 os2 w)(hl1:os1.length<=1000)(hl2:os2.length<=1000):
  Cw 151 #[.func (.func 81) #[] #[.pointer (some ⟨p1,0,none⟩),.pointer (some ⟨p3,0,none⟩)]] w fun v w'=>∃t,v=slV t/\OwS w' t 2 ((meetL os1 os2).flatMap sv)/\Ext w w'/\∀j∈blk t,w.heap.size<=j:=by
 refine F151_ok (81,#[.pointer (some ⟨p1,0,none⟩),.pointer (some ⟨p3,0,none⟩)]) w _ ((c166 hI hl1 hl2).use ?_)
 rintro _ w2 ⟨t,rfl,h⟩
 exact⟨t,rfl,t,rfl,h⟩
theorem c132{w:World}{s t:Sl}{xs ys:List Spn}(hs:Rd w s 2 (xs.flatMap sv))(ht:Rd w t 2 (ys.flatMap sv))(hxl:xs.length<=1000000)(hyl:ys.length<=1000000):
  Cw 132 #[slV s,slV t] w fun v w'=>∃t' os,v=slV t'/\NormS os/\(∀k,hasS os k↔hasS xs k/\hasS ys k)/\OwS w' t' 2 (os.flatMap sv)/\Ext w w'/\∀j∈blk t',w.heap.size<=j:=by
 refine F132_ok s t w _ ⟨by decide,?_⟩
 refine plain1 hs hxl fun s5 os1 w4 hN1 hk1 ho1 hl1 e4 hb5=>⟨s5,rfl,by decide,?_⟩
 refine plain1 (ht.ext e4) hyl fun s10 os2 w9 hN2 hk2 ho2 hl2 e9 hb10=>⟨s10,rfl,?_⟩
 refine(c49 s5 s10 w9).use ?_
 rintro _ w12 ⟨p1,p3,rfl,hp1,hp3,hp1',hp3',e12⟩
 have hI:InvM p1 p3 s5 s10 os1 os2 w12:=⟨hp1,hp3,((ho1.ext e9).ext e12).rd,(ho2.ext e12).rd⟩
 refine⟨(81,#[.pointer (some ⟨p1,0,none⟩),.pointer (some ⟨p3,0,none⟩)]),rfl,(c151 hI (normS_len hN1) (normS_len hN2)).use ?_⟩
 rintro _ w15 ⟨s16,rfl,ho,e15,hb16⟩
 have E15:=((e4.trans e9).trans e12).trans e15
 refine⟨s16,rfl,by decide,?_⟩
 refine plain1 ho.rd (Nat.le_trans meetL_len (Nat.mul_le_mul (normS_len hN1) (normS_len hN2))) fun s21 os3 w20 hN3 hk3 ho3 hl3 e20 hb21=>⟨s21,rfl,s21,os3,rfl,hN3,fun k=>?_,ho3,E15.trans e20,fun j hj=>by have:=hb21 j hj;have:=E15.size;omega⟩
 rw[hk3,meetL_has hN1.2 hN2.2,hk1,hk2]
theorem c133{w:World}{t:Sl}{l:List Spn}(h:Rd w t 2 (l.flatMap sv))(hN:NormS l):
  Cw 133 #[slV t] w fun v w'=>∃t' os,v=slV t'/\NormS os/\(∀k,hasS os k↔(0<=k/\k<=999)/\¬hasS l k)/\OwS w' t' 2 (os.flatMap sv)/\Ext w w'/\∀j∈blk t',w.heap.size<=j:=by
 have hn:=rdN sv_len (by omega) h
 have hll:=normS_len hN
 refine F133_ok t w _ ⟨fun n x W=>∃(i:Nat)(so:Sl),i<=l.length/\n+i=l.length/\x=(so,lastF 0 (l.take i),(i:Int))/\OwS W so 2 ((gapL 0 (l.take i)).flatMap sv)/\Ext w W/\∀j∈blk so,w.heap.size<=j,
  ⟨l.length,0,⟨none,0,0⟩,Nat.zero_le _,rfl,rfl,.nil _ _,Ch.refl _ _,by simp[blk]⟩,?_⟩
 rintro n _ W g ⟨i,so,hi,hni,rfl,ho,hE,hb⟩
 have hon:so.n=i:=by have:=owsN sv_len (by omega) ho;rw[gapL_len,List.length_take] at this;omega
 unfold F133j1
 refine IfB.dec (fun hlt=>?_) fun hge=>?_
 ·have hi':i<l.length:=by have:(i:Int)<(t.n:Int):=hlt;omega
  have hx:l[i]? =some l[i]:=List.getElem?_eq_getElem hi'
  have hms:=hN.2 _ (List.getElem_mem hi')
  have htk:=take_succ_get hx
  generalize l[i]=s at hx hms htk
  unfold mayS at hms
  obtain⟨a,o,hp,hc⟩:=(h.ext hE).elem (i:=i) (by omega) (by omega) (flatGet sv_len hx)
  refine⟨a,o,hp,⟨by dsimp only;omega,hlt⟩,s,by dsimp only;rw[Int.toNat_natCast];exact hc,boxSp rfl fun b11 w13 hb11 hs13 h13 e13 _=>⟨s.1,by rw[cell_of h13];rfl,by decide,fun b15 w16 h16=>?_⟩⟩
  rw[wrap_of (by omega) (by omega)] at h16
  have e16:Ext W w16:=e13.trans (h16.ch _)
  refine(ho.ext e16).lit (new:=sv (lastF 0 (l.take i),s.1-1)) (T':=71) h16.new rfl (sv_one _) rfl rfl (by omega) (by decide) fun s' w19 ho' hn' hC' hb'=>?_
  have k13:w19.heap[b11]? =_:=hC'.at ((h16.ch (fun _=>False)).at h13 id) fun h=>by have:=ho.lt _ h;omega
  refine⟨s.2,by rw[cell_of k13];rfl,rfl,n-1,by omega,i+1,s',hi',by omega,?_,?_,?_,?_⟩
  ·rw[htk,lastF_snoc,wrap_of (by omega) (by omega),wrap_of (by dsimp only;omega) (by dsimp only;omega)];rfl
  ·rw[htk,gapL_snoc,List.flatMap_append];simpa using ho'
  ·exact(hE.trans e16).then hC' fun j hj h=>by have:=hb j h;omega
  ·intro j hj
   rcases hb' j hj with h|h
   ·exact hb j h
   ·have:=hE.size;have:=e16.size;omega
 ·have hi':i=l.length:=by have:¬(i:Int)<(t.n:Int):=hge;omega
  subst hi'
  rw[List.take_length] at ho ⊢
  refine⟨by decide,fun b22 w23 h23=>?_⟩
  have e23:Ext W w23:=h23.ch _
  refine(ho.ext e23).lit (new:=sv (lastF 0 l,999)) (T':=71) h23.new rfl (sv_one _) rfl rfl (by omega) (by decide) fun s' w26 ho' hn' hC' hb'=>⟨by decide,?_⟩
  have E26:Ext w w26:=(hE.trans e23).then hC' fun j hj h=>by have:=hb j h;omega
  refine plain1 (xs:=gapL 0 l++[(lastF 0 l,999)]) (by rw[List.flatMap_append];simpa using ho'.rd) (by rw[List.length_append,gapL_len];simp;omega) fun s31 os w30 hN3 hk3 ho3 hl3 e30 hb31=>⟨s31,rfl,s31,os,rfl,hN3,fun k=>?_,ho3,E26.trans e30,fun j hj=>by have:=hb31 j hj;have:=E26.size;omega⟩
  rw[hk3,gap_has hN (Int.le_refl _) fun x hx=>(hN.2 x hx).1]
theorem c102{w:World}{s t:Sl}{xs ys:List Spn}(hs:Rd w s 2 (xs.flatMap sv))(ht:Rd w t 2 (ys.flatMap sv))(hxl:xs.length<=1000000)(hyl:ys.length<=1000000):
  Cw 102 #[slV s,slV t] w fun v w'=>∃t' os,v=slV t'/\NormS os/\(∀k,hasS os k↔hasS xs k/\¬hasS ys k)/\OwS w' t' 2 (os.flatMap sv)/\Ext w w'/\∀j∈blk t',w.heap.size<=j:=by
 refine F102_ok s t w _ ⟨by decide,?_⟩
 refine plain1 ht hyl fun s5 os1 w4 hN1 hk1 ho1 hl1 e4 hb5=>⟨s5,rfl,(c133 ho1.rd hN1).use ?_⟩
 rintro _ w7 ⟨s8,os2,rfl,hN2,hk2,ho2,e7,hb8⟩
 refine⟨s8,rfl,(c132 ((hs.ext e4).ext e7) ho2.rd hxl (by have:=normS_len hN2;omega)).use ?_⟩
 rintro _ w10 ⟨s11,os3,rfl,hN3,hk3,ho3,e10,hb11⟩
 have E:=e4.trans e7
 refine⟨s11,rfl,s11,os3,rfl,hN3,fun k=>?_,ho3,E.trans e10,fun j hj=>by have:=hb11 j hj;have:=E.size;omega⟩
 rw[hk3,hk2,hk1]
 exact⟨fun h=>⟨h.1,h.2.2⟩,fun h=>⟨h.1,by obtain⟨x,_,hm,h1,h2⟩:=h.1;unfold mayS at hm;omega,h.2⟩⟩
theorem c55{w:World}{s t:Sl}{xs ys:List Spn}(hs:Rd w s 2 (xs.flatMap sv))(ht:Rd w t 2 (ys.flatMap sv))(hxl:xs.length<=1000000)(hyl:ys.length<=1000000):
  Cw 55 #[slV s,slV t] w fun v w'=>∃r,v=.bool r/\(r=true↔∀k,hasS xs k->hasS ys k)/\Ext w w':=by
 refine F55_ok s t w _ ((c102 hs ht hxl hyl).use ?_)
 rintro _ w2 ⟨s3,os,rfl,hN,hk,ho,e,hb⟩
 have hn:=owsN sv_len (by omega) ho
 refine⟨s3,rfl,_,rfl,?_,e⟩
 have e1:((s3.n:Int) == 0)=true↔os=[]:=by rw[beq_iff_eq,hn];exact⟨fun h=>List.length_eq_zero_iff.1 (by omega),fun h=>by subst h;rfl⟩
 rw[show ((s3.2:Int) == 0)=((s3.n:Int) == 0) from rfl,e1,normS_nil hN]
 exact⟨fun h k hx=>Classical.byContradiction fun hy=>h k ((hk k).2 ⟨hx,hy⟩),fun h k hk'=>((hk k).1 hk').2 (h k ((hk k).1 hk').1)⟩
def ranI(a:Int)(n:Nat):List Int:=(List.range n).map fun i:Nat=>a+(i:Int)
theorem ranI_snoc(a:Int)(n:Nat):ranI a (n+1)=ranI a n++[a+(n:Int)]:=by simp[ranI,List.range_succ]
theorem mem_ranI{a k:Int}{n:Nat}:k∈ranI a n↔a<=k/\k<a+n:=by
 simp only[ranI,List.mem_map,List.mem_range]
 exact⟨fun⟨i,hi,e⟩=>by omega,fun h=>⟨(k-a).toNat,by omega,by omega⟩⟩
theorem ranI_len(a:Int)(n:Nat):(ranI a n).length=n:=by simp[ranI]
theorem ranI_srt(a:Int)(n:Nat):(ranI a n).Pairwise (· < ·):=by
 unfold ranI
 rw[List.pairwise_map]
 exact List.pairwise_lt_range.imp fun h=>by omega
def allL(l:List Spn):List Int:=l.flatMap fun s=>ranI s.1 (s.2+1-s.1).toNat
theorem allL_snoc(l:List Spn)(s:Spn):allL (l++[s])=allL l++ranI s.1 (s.2+1-s.1).toNat:=by simp[allL]
theorem mem_allL{l:List Spn}(h:∀x∈l,mayS x){k:Int}:k∈allL l↔hasS l k:=by
 simp only[allL,List.mem_flatMap,mem_ranI,hasS]
 exact⟨fun⟨x,hx,h1,h2⟩=>⟨x,hx,h x hx,h1,by have:=h x hx;unfold mayS at this;omega⟩,fun⟨x,hx,hm,h1,h2⟩=>⟨x,hx,h1,by unfold mayS at hm;omega⟩⟩
theorem allL_srt{l:List Spn}(h:NormS l):(allL l).Pairwise (· < ·):=by
 unfold allL
 rw[List.pairwise_flatMap]
 refine⟨fun x _=>ranI_srt _ _,h.1.imp_of_mem fun{a b} ha hb hab=>?_⟩
 intro x hx y hy
 rw[mem_ranI] at hx hy
 have:=h.2 a ha
 unfold mayS at this
 omega
theorem srtI_len{l:List Int}(hs:l.Pairwise (· < ·))(h:∀x∈l,0<=x/\x<=999):l.length<=1000:=by
 have key:∀(l:List Int)(f:Int),l.Pairwise (· < ·)->(∀x∈l,f<=x/\x<=999)->(l.length:Int)<=max 0 (1000-f):=by
  intro l
  induction l with
  | nil=>intro f _ _;simp;omega
  | cons a l ih=>
   intro f hs hf
   have ha:=hf a (List.mem_cons_self ..)
   have:=ih (a+1) (List.pairwise_cons.1 hs).2 fun x hx=>⟨by have:=(List.pairwise_cons.1 hs).1 x hx;omega,(hf x (List.mem_cons_of_mem _ hx)).2⟩
   rw[List.length_cons]
   omega
 have:=key l 0 hs h
 omega
theorem allL_take{l:List Spn}(h:NormS l)(i:Nat):NormS (l.take i):=⟨h.1.sublist (List.take_sublist _ _),fun x hx=>h.2 x (List.mem_of_mem_take hx)⟩
theorem allL_len{l:List Spn}(h:NormS l):(allL l).length<=1000:=srtI_len (allL_srt h) fun x hx=>by
 obtain⟨s,_,hm,h1,h2⟩:=(mem_allL h.2).1 hx
 unfold mayS at hm;omega
theorem c109{w:World}{t:Sl}{xs:List Spn}(h:Rd w t 2 (xs.flatMap sv))(hl:xs.length<=1000000):
  Cw 109 #[slV t] w fun v w'=>∃t',∃ks:List Int,v=slV t'/\ks.Pairwise (· < ·)/\(∀k,k∈ks↔hasS xs k)/\OwS w' t' 1 (ks.map iv)/\ks.length<=1000/\Ext w w'/\∀j∈blk t',w.heap.size<=j:=by
 refine F109_ok t w _ ⟨by decide,?_⟩
 refine plain1 h hl fun s5 os w4 hN hk ho hol e4 hb5=>⟨s5,rfl,?_⟩
 have hn:=owsN sv_len (by omega) ho
 refine⟨fun n x W=>∃(i:Nat)(so:Sl),i<=os.length/\n+i=os.length/\x=(so,(i:Int))/\OwS W so 1 ((allL (os.take i)).map iv)/\Ext w4 W/\∀j∈blk so,w4.heap.size<=j,
  ⟨os.length,0,⟨none,0,0⟩,Nat.zero_le _,rfl,rfl,.nil _ _,Ch.refl _ _,by simp[blk]⟩,?_⟩
 rintro n _ W g ⟨i,so,hi,hni,rfl,hso,hE,hb⟩
 have hosl:=normS_len hN
 unfold F109j1
 refine IfB.dec (fun hlt=>?_) fun hge=>?_
 ·have hi':i<os.length:=by have:(i:Int)<(s5.n:Int):=hlt;omega
  have hx:os[i]? =some os[i]:=List.getElem?_eq_getElem hi'
  have hms:=hN.2 _ (List.getElem_mem hi')
  have htk:=take_succ_get hx
  have hlen:=allL_len (allL_take hN (i+1))
  generalize os[i]=s at hx hms htk
  unfold mayS at hms
  rw[htk,allL_snoc,List.length_append,ranI_len] at hlen
  obtain⟨a,o,hp,hc⟩:=(ho.rd.ext hE).elem (i:=i) (by omega) (by omega) (flatGet sv_len hx)
  refine⟨a,o,hp,⟨by dsimp only;omega,hlt⟩,s,by dsimp only;rw[Int.toNat_natCast];exact hc,boxSp rfl fun b16 w18 hb16 hs18 h18 e18 _=>⟨s.1,by rw[cell_of h18];rfl,?_⟩⟩
  refine⟨fun m y V=>∃(j:Nat)(sj:Sl),s.1+(j:Int)<=s.2+1/\m+j=(s.2+1-s.1).toNat/\y=(sj,s.1+(j:Int))/\OwS V sj 1 ((allL (os.take i)++ranI s.1 j).map iv)/\(Ext w4 V/\∃T,V.heap[b16]? =some (.cells #[.int .i64 s.1,.int .i64 s.2] T (0,0)))/\∀q∈blk sj,w4.heap.size<=q/\q≠b16,
   ⟨(s.2+1-s.1).toNat,0,so,by omega,rfl,by simp,by simpa [ranI] using hso.ext e18,⟨hE.trans e18,_,h18⟩,fun q hq=>⟨hb q hq,fun e=>by have:=hso.lt q hq;omega⟩⟩,?_⟩
  rintro m _ V g ⟨j,sj,hj1,hmj,rfl,hsj,⟨hEV,T18,k18⟩,hbj⟩
  have l18:=heap_lt k18
  have hjn:sj.n=(allL (os.take i)).length+j:=by have:=hsj.len1;rw[List.length_map,List.length_append,ranI_len] at this;exact this
  unfold F109j2
  refine⟨s.2,by rw[cell_of k18];rfl,IfB.dec (fun hle=>?_) fun hgt=>?_⟩
  ·refine⟨by decide,fun b31 w32 h32=>?_⟩
   have e32:Ext V w32:=h32.ch _
   refine(hsj.ext e32).lit (new:=[iv (s.1+(j:Int))]) (T':=3) h32.new rfl (oneIv _) rfl rfl (by omega) (by decide) fun s' w35 ho' hn' hC' hb'=>⟨rfl,m-1,by omega,j+1,s',by omega,by omega,?_,?_,?_,?_⟩
   ·rw[wrap_of (by omega) (by omega)]
    exact congrArg (Prod.mk s') (by push_cast;omega)
   ·rw[ranI_snoc,<-List.append_assoc,List.map_append];simpa using ho'
   ·exact⟨(hEV.trans e32).then hC' fun q hq h=>(by have:=(hbj q h).1;omega),T18,hC'.at (e32.at k18) fun h=>(hbj _ h).2 rfl⟩
   ·intro q hq
    rcases hb' q hq with h|h
    ·exact hbj q h
    ·have:=hEV.size;have:=e32.size;omega
  ·have hj':j=(s.2+1-s.1).toNat:=by omega
   subst hj'
   refine⟨rfl,n-1,by omega,i+1,sj,hi',by omega,by rw[wrap_of (by omega) (by omega)];rfl,by rw[htk,allL_snoc];exact hsj,hEV,fun q hq=>(hbj q hq).1⟩
 ·have hi':i=os.length:=by have:¬(i:Int)<(s5.n:Int):=hge;omega
  subst hi'
  rw[List.take_length] at hso
  exact⟨so,allL os,rfl,allL_srt hN,fun k=>by rw[mem_allL hN.2,hk],hso,allL_len hN,e4.trans hE,fun j hj=>by have:=hb j hj;have:=e4.size;omega⟩
def F13j1(t0:Sl)(R:RV)(b1:Nat)(y3:Nat->Int->World->Prop)(b5:Nat)(n6:Int)(w7:World):Prop:=IfB (decide (n6<(t0.n:Int))) (Qx t0.1 n6 (t0.2:Int) fun b10 b11=>∃(x12:Int×Int),CellsAt w7 b10 (b11+n6.toNat*2) [Qz x12.1,Qz x12.2]/\AllocP w7 (Obj.cells #[Qz 0,Qz 0] 40) fun b13 w14=>#[Qz x12.1,Qz x12.2].size=2/\StoreP w14 b13 0 [Qz x12.1,Qz x12.2] fun w15=>Qi w15 b13 (0+0) fun n16=>Qi w15 b13 (0+1) fun n17=>Qw' 17 #[Value.pointer (some ⟨b1,0,none⟩),Qz n16,Qz n17] w15 fun n20 w19=>([]:List Df)=[]/\∃b21:Nat,b21<b5/\y3 b21 (IntKind.i64.wrap (n6+1)) w19) (R (Value.pointer (some ⟨b1,0,none⟩)) w7)
theorem F13_ok(t0:Sl)(w:World)(R:RV)(h:AllocP w (Obj.cells #[Value.slice none 0 0] 69) fun b1 w2=>Ql (α:=Int) 0 w2 fun y3 b5 n6 w7=>(F13j1 t0 R b1 y3 b5 n6 w7)):Cw 13 #[Qy t0] w R:=
 ckF Tryz.func13 (nd (nd (.node (nd (.loop [(10,oi)] (rg [5,5,10,20]) .nil)) .nil))) h (by kernel_rfl) (by kernel_rfl)
def F17j1(t0:Option Addr)(t1:Int)(t2:Int)(R:RV)(x6:Int×Int×Bool)(w26:World):Prop:=∃b29:Nat,∃b30:Nat,t0=some ⟨b29,b30,none⟩/\Qs w26 b29 (b30+0) fun s31=>Qx s31.1 x6.1 (s31.2:Int) fun b32 b33=>Qs w26 b32 (b33+x6.1.toNat) fun s34=>1*2<=16777216/\AllocP w26 (Obj.cells #[Qz t1,Qz t2] 40) fun b35 w36=>Qu' 37 #[Qy s34,Qz x6.snd.1,Value.slice (some ⟨b35,0,none⟩) 1 1] w36 fun s39 w38=>∃b40:Nat,∃b41:Nat,t0=some ⟨b40,b41,none⟩/\Qs w38 b40 (b41+0) fun s42=>Qx s42.1 x6.1 (s42.2:Int) fun b43 b44=>#[Qy s39].size=1/\StoreP w38 b43 (b44+x6.1.toNat) [Qy s39] fun w45=>IfB (decide (8<(s39.n:Int))) (∃b46:Nat,∃b47:Nat,t0=some ⟨b46,b47,none⟩/\Qs w45.drew b46 (b47+0) fun s48=>((0:Int)<=4/\(4:Int)<=4/\4<=(s39.3:Int))/\Qu' 38 #[Value.slice (slAddr s39.1 (Int.toNat 4) 0 2) (Int.toNat 4) (Int.toNat 4)] w45.drew fun s51 w50=>w50.cell? ⟨b46,b47+0,none⟩=some (Qy s48)/\Qx s48.1 x6.1 (s48.2:Int) fun b52 b53=>#[Qy s51].size=1/\StoreP w50 b52 (b53+x6.1.toNat) [Qy s51] fun w54=>∃b55:Nat,∃b56:Nat,t0=some ⟨b55,b56,none⟩/\Qs w54.drew b55 (b56+0) fun s57=>((0:Int)<=4/\4<=(s39.2:Int))/\Qu' 38 #[Value.slice (slAddr s39.1 s39.3 (Int.toNat 4) 2) (s39.2-Int.toNat 4) (s39.3-Int.toNat 4)] w54.drew fun s60 w59=>w59.cell? ⟨b55,b56+0,none⟩=some (Qy s57)/\1*1<=16777216/\AllocP w59 (Obj.cells #[Qy s60] 94) fun b61 w62=>w62.cell? ⟨b55,b56+0,none⟩=some (Qy s57)/\Qu' 39 #[Qy s57,Qz (IntKind.i64.wrap (x6.1+1)),Value.slice (some ⟨b61,0,none⟩) 1 1] w62 fun s65 w64=>∃b66:Nat,∃b67:Nat,t0=some ⟨b66,b67,none⟩/\#[Qy s65].size=1/\StoreP w64 b66 (b67+0) [Qy s65] fun w68=>R (Qz 0) w68) (R (Qz 0) w45)
theorem F17_ok(t0:Option Addr)(t1:Int)(t2:Int)(w:World)(R:RV)(h:Cx 35 #[Value.pointer t0,Qz t1] w fun v1 w2=>∃t3:Bool,v1=Value.bool t3/\IfB (!t3) (R (Qz 3) w2) (Cx 36 #[Value.pointer t0,Qz t1] w2 fun v4 w5=>∃(x6:Int×Int×Bool),v4=Value.tuple #[Qz x6.1,Qz x6.snd.1,Value.bool x6.snd.2]/\∃(y7:Unit->World->Prop),IfB x6.snd.2 (∃b8:Nat,∃b9:Nat,t0=some ⟨b8,b9,none⟩/\Qs w5 b8 (b9+0) fun s10=>Qx s10.1 x6.1 (s10.2:Int) fun b11 b12=>Qs w5 b11 (b12+x6.1.toNat) fun s13=>Qx s13.1 x6.snd.1 (s13.2:Int) fun b14 b15=>#[Qz t2].size=1/\StoreP w5 b14 (b15+Int.toNat x6.snd.1*2+1) [Qz t2] fun w16=>R (Qz 0) w16) (∃b17:Nat,∃b18:Nat,t0=some ⟨b17,b18,none⟩/\Qs w5 b17 (b18+0) fun s19=>IfB ((s19.2:Int) == 0) (1*1<=16777216/\AllocP w5 (Obj.cells #[Value.slice none 0 0] 94) fun b20 w21=>∃b22:Nat,∃b23:Nat,t0=some ⟨b22,b23,none⟩/\#[Value.slice (some ⟨b20,0,none⟩) 1 1].size=1/\StoreP w21 b22 (b23+0) [Value.slice (some ⟨b20,0,none⟩) 1 1] fun w24=>([]:List Df)=[]/\y7 PUnit.unit w24) (([]:List Df)=[]/\y7 PUnit.unit w5))/\∀(y25:Unit)(w26:World)(y27:Nat->Value),y7 y25 w26->(F17j1 t0 t1 t2 R x6 w26))):Cw 17 #[Value.pointer t0,Qz t1,Qz t2] w R:=
 ckF Tryz.func17 (nd (nd (nd (.join [] (rg [6,6,22,45]) .nil (nd (nd (.node (nd (.node (.node (.draw (sts [0,1,2,3,4,5,6] (.ac 7 [4,3,2,1,0] (.st 8 (.ac 9 [] .fin .non)) .non))) (.draw (sts [0,1,2,3,4,5,6,7,8] (.ac 9 (rg [0,6]) (.ac 10 (rg [0,6]) (.ac 11 [0] (sts [12,13] (.ac 14 [] .fin .non)) .non) .non) .non)))) .nil)) .nil))))))) h (by kernel_rfl) (by kernel_rfl)
theorem F26_ok(t0:Option Addr)(t1:Int)(w:World)(R:RV)(h:Cx 35 #[Value.pointer t0,Qz t1] w fun v1 w2=>∃t3:Bool,v1=Value.bool t3/\IfB (!t3) (R (Value.tuple #[Qz 0,Qz 3]) w2) (Cx 36 #[Value.pointer t0,Qz t1] w2 fun v4 w5=>∃(x6:Int×Int×Bool),v4=Value.tuple #[Qz x6.1,Qz x6.snd.1,Value.bool x6.snd.2]/\IfB (!x6.snd.2) (R (Value.tuple #[Qz 0,Qz 5]) w5) (∃b7:Nat,∃b8:Nat,t0=some ⟨b7,b8,none⟩/\Qs w5 b7 (b8+0) fun s9=>Qx s9.1 x6.1 (s9.2:Int) fun b10 b11=>Qs w5 b10 (b11+x6.1.toNat) fun s12=>Qx s12.1 x6.snd.1 (s12.2:Int) fun b13 b14=>Qi w5 b13 (b14+Int.toNat x6.snd.1*2+1) fun n15=>R (Value.tuple #[Qz n15,Qz 0]) w5))):Cw 26 #[Value.pointer t0,Qz t1] w R:=
 ckF Tryz.func26 .nil h (by kernel_rfl) (by kernel_rfl)
def F48k1(t0:Option Addr)(t1:Int)(w2:World)(R:RV):Prop:=Cx 36 #[Value.pointer t0,Qz t1] w2 fun v4 w5=>∃(x6:Int×Int×Bool),v4=Value.tuple #[Qz x6.1,Qz x6.snd.1,Value.bool x6.snd.2]/\IfB (!x6.snd.2) (R (Qz 5) w5) (∃b7:Nat,∃b8:Nat,t0=some ⟨b7,b8,none⟩/\Qs w5.drew b7 (b8+0) fun s9=>∃b10:Nat,∃b11:Nat,t0=some ⟨b10,b11,none⟩/\Qs w5.drew b10 (b11+0) fun s12=>Qx s12.1 x6.1 (s12.2:Int) fun b13 b14=>Qs w5.drew b13 (b14+x6.1.toNat) fun s15=>Qu' 78 #[Qy s15,Qz x6.snd.1,Qz (IntKind.i64.wrap (x6.snd.1+1))] w5.drew fun s18 w17=>w17.cell? ⟨b7,b8+0,none⟩=some (Qy s9)/\Qx s9.1 x6.1 (s9.2:Int) fun b19 b20=>#[Qy s18].size=1/\StoreP w17 b19 (b20+x6.1.toNat) [Qy s18] fun w21=>∃b22:Nat,∃b23:Nat,t0=some ⟨b22,b23,none⟩/\Qs w21 b22 (b23+0) fun s24=>Qx s24.1 x6.1 (s24.2:Int) fun b25 b26=>Qs w21 b25 (b26+x6.1.toNat) fun s27=>IfB ((s27.2:Int) == 0) (∃b28:Nat,∃b29:Nat,t0=some ⟨b28,b29,none⟩/\Qs w21 b28 (b29+0) fun s30=>Qu' 79 #[Qy s30,Qz x6.1,Qz (IntKind.i64.wrap (x6.1+1))] w21 fun s33 w32=>∃b34:Nat,∃b35:Nat,t0=some ⟨b34,b35,none⟩/\#[Qy s33].size=1/\StoreP w32 b34 (b35+0) [Qy s33] fun w36=>R (Qz 0) w36) (Qv' 80 #[Value.pointer t0,Qz x6.1] w21 fun t39 w38=>IfB (!t39) (Qv' 80 #[Value.pointer t0,Qz (IntKind.i64.wrap (x6.1-1))] w38 fun t42 w41=>R (Qz 0) w41) (R (Qz 0) w38)))
theorem F48_ok(t0:Option Addr)(t1:Int)(w:World)(R:RV)(h:Cx 35 #[Value.pointer t0,Qz t1] w fun v1 w2=>∃t3:Bool,v1=Value.bool t3/\IfB (!t3) (R (Qz 3) w2) (F48k1 t0 t1 w2 R)):Cw 48 #[Value.pointer t0,Qz t1] w R:=
 ckF Tryz.func48 (nd (nd (nd (nd (.node (.draw (sts [0,1,2,3,4,5,6,7,8,9,10,11,12,13,14] (.ac 15 [4,3,2,1,0] (.st 16 (.ac 17 [] .fin .non)) .non))) .nil))))) h (by kernel_rfl) (by kernel_rfl)
theorem F35_ok(t0:Option Addr)(t1:Int)(w:World)(R:RV)(h:IfB (!t0.isNone) (IfB (decide (0<=t1)) (R (Value.bool (decide (t1<=999))) w) (R (Value.bool false) w)) (R (Value.bool false) w)):Cw 35 #[Value.pointer t0,Qz t1] w R:=
 ckF Tryz.func35 .nil h (by kernel_rfl) (by kernel_rfl)
theorem F36_ok(t0:Option Addr)(t1:Int)(w:World)(R:RV)(h:AllocP w (Obj.cells #[Qz t1] 3) fun b1 w2=>∃b3:Nat,∃b4:Nat,t0=some ⟨b3,b4,none⟩/\Qs w2 b3 (b4+0) fun s5=>Qw' 67 #[Qy s5,Value.func (Fn.func 66) #[] #[Value.pointer (some ⟨b1,0,none⟩)]] w2 fun n8 w7=>IfB (decide (n8<0)) (∃b9:Nat,∃b10:Nat,t0=some ⟨b9,b10,none⟩/\Qs w7 b9 (b10+0) fun s11=>∃b12:Nat,∃b13:Nat,t0=some ⟨b12,b13,none⟩/\Qs w7 b12 (b13+0) fun s14=>IfB ((if IntKind.i64.wrap ((s11.n:Int)-1)<0 then 0 else IntKind.i64.wrap ((s11.2:Int)-1)) == (s14.2:Int)) (R (Value.tuple #[Qz 0,Qz 0,Value.bool false]) w7) (∃b15:Nat,∃b16:Nat,t0=some ⟨b15,b16,none⟩/\Qs w7.drew b15 (b16+0) fun s17=>∃b18:Nat,∃b19:Nat,s17.1=some ⟨b18,b19,none⟩/\((0<=if IntKind.i64.wrap ((s11.n:Int)-1)<0 then 0 else IntKind.i64.wrap ((s11.2:Int)-1))/\(if IntKind.i64.wrap ((s11.n:Int)-1)<0 then 0 else IntKind.i64.wrap ((s11.2:Int)-1))<(s17.2:Int))/\Qs w7.drew b18 (b19+(if IntKind.i64.wrap ((s11.n:Int)-1)<0 then 0 else IntKind.i64.wrap ((s11.2:Int)-1)).toNat) fun s20=>Qi w7.drew b1 0 fun n21=>Cx 68 #[Qy s20,Qz n21,Value.func (Fn.func 69) #[] #[]] w7.drew fun v22 w23=>∃(x24:Int×Bool),v22=Value.tuple #[Qz x24.1,Value.bool x24.2]/\R (Value.tuple #[Qz (if IntKind.i64.wrap ((s11.n:Int)-1)<0 then 0 else IntKind.i64.wrap ((s11.2:Int)-1)),Qz x24.1,Value.bool x24.2]) w23)) (∃b25:Nat,∃b26:Nat,t0=some ⟨b25,b26,none⟩/\Qs w7 b25 (b26+0) fun s27=>IfB ((if IntKind.i64.wrap (n8-1)<0 then 0 else IntKind.i64.wrap (n8-1)) == (s27.2:Int)) (R (Value.tuple #[Qz 0,Qz 0,Value.bool false]) w7) (∃b28:Nat,∃b29:Nat,t0=some ⟨b28,b29,none⟩/\Qs w7.drew b28 (b29+0) fun s30=>∃b31:Nat,∃b32:Nat,s30.1=some ⟨b31,b32,none⟩/\((0<=if IntKind.i64.wrap (n8-1)<0 then 0 else IntKind.i64.wrap (n8-1))/\(if IntKind.i64.wrap (n8-1)<0 then 0 else IntKind.i64.wrap (n8-1))<(s30.2:Int))/\Qs w7.drew b31 (b32+(if IntKind.i64.wrap (n8-1)<0 then 0 else IntKind.i64.wrap (n8-1)).toNat) fun s33=>Qi w7.drew b1 0 fun n34=>Cx 68 #[Qy s33,Qz n34,Value.func (Fn.func 69) #[] #[]] w7.drew fun v35 w36=>∃(x37:Int×Bool),v35=Value.tuple #[Qz x37.1,Value.bool x37.2]/\R (Value.tuple #[Qz (if IntKind.i64.wrap (n8-1)<0 then 0 else IntKind.i64.wrap (n8-1)),Qz x37.1,Value.bool x37.2]) w36))):Cw 36 #[Value.pointer t0,Qz t1] w R:=
 ckF Tryz.func36 (nd (nd (nd (nd (nd (nd (.node (.draw (sts [0,1,2,3,4,5,6,7] (.ac 8 [] (sts [9,10,11,12,13] .fin) .non))) .nil))))))) h (by kernel_rfl) (by kernel_rfl)
theorem F66_ok(t0:Sl)(t1:Nat)(w:World)(R:RV)(h:∃b1:Nat,∃b2:Nat,t0.1=some ⟨b1,b2,none⟩/\((0:Int)<=0/\0<(t0.2:Int))/\∃n3:Int,w.drew.cell? ⟨b1,b2+Int.toNat 0*2+0,none⟩=some (Qz n3)/\∃n4:Int,w.drew.cell? ⟨t1,0,none⟩=some (Qz n4)/\R (Value.bool (decide (n4<n3))) w.drew):Cw 66 #[Qy t0,Value.pointer (some ⟨t1,0,none⟩)] w R:=
 ckF Tryz.func66 (nd (.node (.draw (sts [0,1,2,3,4,5,6] .fin)) .nil)) h (by kernel_rfl) (by kernel_rfl)
theorem F69_ok(t0:Int×Int)(t1:Int)(w:World)(R:RV)(h:AllocP w (Obj.cells #[Qz t0.1,Qz t0.2] 40) fun b1 w2=>Qi w2 b1 (0+0) fun n3=>R (Qz (IntKind.i64.wrap (n3-t1))) w2):Cw 69 #[Value.agg #[Qz t0.1,Qz t0.2],Qz t1] w R:=
 ckF Tryz.func69 .nil h (by kernel_rfl) (by kernel_rfl)
def F80k1(t0:Option Addr)(w:World)(t1:Int)(R:RV):Prop:=∃b4:Nat,∃b5:Nat,t0=some ⟨b4,b5,none⟩/\∃s6:Sl,w.drew.cell? ⟨b4,b5+0,none⟩=some (Qy s6)/\Qx s6.1 t1 (s6.2:Int) fun b7 b8=>∃s9:Sl,w.drew.cell? ⟨b7,b8+t1.toNat,none⟩=some (Qy s9)/\∃b10:Nat,∃b11:Nat,t0=some ⟨b10,b11,none⟩/\∃s12:Sl,w.drew.cell? ⟨b10,b11+0,none⟩=some (Qy s12)/\Qx s12.1 (IntKind.i64.wrap (t1+1)) (s12.2:Int) fun b13 b14=>∃s15:Sl,w.drew.cell? ⟨b13,b14+(IntKind.i64.wrap (t1+1)).toNat,none⟩=some (Qy s15)/\IfB (decide (4<IntKind.i64.wrap ((s9.n:Int)+(s15.n:Int)))) (R (Value.bool false) w.drew) (∃b16:Nat,∃b17:Nat,t0=some ⟨b16,b17,none⟩/\∃s18:Sl,w.drew.drew.cell? ⟨b16,b17+0,none⟩=some (Qy s18)/\∃b19:Nat,∃b20:Nat,t0=some ⟨b19,b20,none⟩/\∃s21:Sl,w.drew.drew.cell? ⟨b19,b20+0,none⟩=some (Qy s21)/\Qx s21.1 t1 (s21.2:Int) fun b22 b23=>∃s24:Sl,w.drew.drew.cell? ⟨b22,b23+t1.toNat,none⟩=some (Qy s24)/\∃b25:Nat,∃b26:Nat,t0=some ⟨b25,b26,none⟩/\∃s27:Sl,w.drew.drew.cell? ⟨b25,b26+0,none⟩=some (Qy s27)/\Qx s27.1 (IntKind.i64.wrap (t1+1)) (s27.2:Int) fun b28 b29=>∃s30:Sl,w.drew.drew.cell? ⟨b28,b29+(IntKind.i64.wrap (t1+1)).toNat,none⟩=some (Qy s30)/\2*1<=16777216/\AllocP w.drew.drew (Obj.cells #[Qy s24,Qy s30] 94) fun b31 w32=>w32.cell? ⟨b16,b17+0,none⟩=some (Qy s18)/\Qu' 118 #[Value.slice (some ⟨b31,0,none⟩) 2 2] w32 fun s35 w34=>w34.cell? ⟨b16,b17+0,none⟩=some (Qy s18)/\Qx s18.1 t1 (s18.2:Int) fun b36 b37=>#[Qy s35].size=1/\StoreP w34 b36 (b37+t1.toNat) [Qy s35] fun w38=>∃b39:Nat,∃b40:Nat,t0=some ⟨b39,b40,none⟩/\Qs w38 b39 (b40+0) fun s41=>Qu' 79 #[Qy s41,Qz (IntKind.i64.wrap (t1+1)),Qz (IntKind.i64.wrap (t1+2))] w38 fun s44 w43=>∃b45:Nat,∃b46:Nat,t0=some ⟨b45,b46,none⟩/\#[Qy s44].size=1/\StoreP w43 b45 (b46+0) [Qy s44] fun w47=>R (Value.bool true) w47)
theorem F80_ok(t0:Option Addr)(t1:Int)(w:World)(R:RV)(h:IfB (decide (t1<0)) (R (Value.bool false) w.drew) (∃b1:Nat,∃b2:Nat,t0=some ⟨b1,b2,none⟩/\∃s3:Sl,w.drew.cell? ⟨b1,b2+0,none⟩=some (Qy s3)/\IfB (decide ((s3.n:Int)<=IntKind.i64.wrap (t1+1))) (R (Value.bool false) w.drew) (F80k1 t0 w t1 R))):Cw 80 #[Value.pointer t0,Qz t1] w R:=
 ckF Tryz.func80 (nd (.node (.node (.draw (sts [0,1,2,3,4,5,6,7,8,9,10,11,12,13,14,15,16,17,18,19,20,21,22,23,24,25,26,27,28,29,30,31,32] .fin)) .nil) (.node (.draw (sts [0,1,2,3,4,5,6,7,8,9,10,11,12,13,14,15,16,17,18,19] (.ac 20 [4,3,2,1,0] (.ac 21 [4,3,2,1,0] (.st 22 (.ac 23 [] .fin .non)) .non) .non))) .nil))) h (by kernel_rfl) (by kernel_rfl)
theorem F47_ok(t0:Option Addr)(w:World)(R:RV)(h:AllocP w (Obj.cells #[Value.pointer t0] 42) fun b1 w2=>R (Value.func (Fn.func 77) #[] #[Value.pointer (some ⟨b1,0,none⟩)]) w2):Cw 47 #[Value.pointer t0] w R:=
 ckF Tryz.func47 .nil h (by kernel_rfl) (by kernel_rfl)
def F77j2(t0:Nat)(R:RV)(y6:Nat->Int->World->Prop)(b8:Nat)(n9:Int)(s15:Sl)(y16:Nat->Int->World->Prop)(b18:Nat)(n19:Int)(w20:World):Prop:=IfB (decide (n19<(s15.n:Int))) (Qx s15.1 n19 (s15.2:Int) fun b23 b24=>∃(x25:Int×Int),CellsAt w20 b23 (b24+n19.toNat*2) [Qz x25.1,Qz x25.2]/\AllocP w20 (Obj.cells #[Qz 0,Qz 0] 40) fun b26 w27=>#[Qz x25.1,Qz x25.2].size=2/\StoreP w27 b26 0 [Qz x25.1,Qz x25.2] fun w28=>∃(x29:Int×Int),CellsAt w28 b26 0 [Qz x29.1,Qz x29.2]/\YW Tryz.prog t0 #[Value.agg #[Qz x29.1,Qz x29.2]] w28 fun(t30:Bool) (w31:World)=>IfB (!t30) (R (Value.tuple #[]) w31) (([]:List Df)=[]/\∃b32:Nat,b32<b18/\y16 b32 (IntKind.i64.wrap (n19+1)) w31)) (([]:List Df)=[]/\∃b33:Nat,b33<b8/\y6 b33 (IntKind.i64.wrap (n9+1)) w20)
def F77j1(t0:Nat)(R:RV)(s5:Sl)(y6:Nat->Int->World->Prop)(b8:Nat)(n9:Int)(w10:World):Prop:=IfB (decide (n9<(s5.n:Int))) (Qx s5.1 n9 (s5.2:Int) fun b13 b14=>Qs w10 b13 (b14+n9.toNat) fun s15=>Ql (α:=Int) 0 w10 fun y16 b18 n19 w20=>(F77j2 t0 R y6 b8 n9 s15 y16 b18 n19 w20)) (R (Value.tuple #[]) w10)
theorem F77_ok(t0:Nat)(t1:Nat)(w:World)(R:RV)(h:∃(p1:Option Addr),w.cell? ⟨t1,0,none⟩=some (Value.pointer p1)/\IfB p1.isNone (R (Value.tuple #[]) w) (∃(p2:Option Addr),w.cell? ⟨t1,0,none⟩=some (Value.pointer p2)/\∃b3:Nat,∃b4:Nat,p2=some ⟨b3,b4,none⟩/\∃s5:Sl,w.cell? ⟨b3,b4+0,none⟩=some (Qy s5)/\Ql (α:=Int) 0 w fun y6 b8 n9 w10=>(F77j1 t0 R s5 y6 b8 n9 w10))):Cw 77 #[Value.func (Fn.yield t0) #[] #[],Value.pointer (some ⟨t1,0,none⟩)] w R:=
 ckF Tryz.func77 (nd (nd (.loop [(14,oi)] (rg [4,4,6,6,14,29]) (nd (nd (.node (nd (nd (.loop [(20,oi)] (rg [6,6,20,28]) .nil))) .nil)))))) h (by kernel_rfl) (by kernel_rfl)
noncomputable def R22_0:Code:=codeAt [1,1,0,1,0] (bodyOf Tryz.f22)
def R22_0a:An:=.nil
theorem R22_0ok1:okC tb Tryz.f22.ntmps (rA R22_0) .nil=true:=by kernel_rfl
theorem R22_0ok2:okC tb Tryz.f22.ntmps (rB R22_0) R22_0a=true:=by kernel_rfl
theorem R22_0okp:(rP R22_0).toList.all (fun p=>Nat.blt p Tryz.f22.ntmps)=true:=by kernel_rfl
theorem F22_ok(t0:Option Addr)(t1:Int)(t2:Int)(w:World)(R:RV)(h:AllocP w (Obj.cells #[Qz t1] 3) fun b1 w2=>AllocP w2 (Obj.cells #[Qz t2] 3) fun b3 w4=>AllocP w4 (Obj.cells #[Value.slice none 0 0] 38) fun b5 w6=>Cx 47 #[Value.pointer t0] w6 fun v7 w8=>∃(x9:Nat×Array Value),v7=Value.func (Fn.func x9.1) #[] x9.2/\∀(y10:Nat->Value),RangeP Tryz.prog tb (nat_lit 25) none R22_0a (rG R22_0) (rP R22_0) (rA R22_0) (rB R22_0) (frC y10 [(4,Value.pointer (some ⟨b1,0,none⟩)),(5,Value.pointer (some ⟨b3,0,none⟩)),(6,Value.slice none 0 0),(7,Value.pointer (some ⟨b5,0,none⟩)),(10,Value.func (Fn.func x9.1) #[] x9.2)]) [] w8 (fun(l11:List Df) (w12:World)=>Qs w12 b5 0 fun s13=>marksP w12 l11 fun w14=>R (Qy s13) w14) (fun(l15:List Df) (w16:World)=>marksP w16 l15 fun w17=>R (Value.slice none 0 0) w17) fun(b18:Nat) (l19:List Df) (w20:World)=>match b18.beq 0 with|true=>Qs w20 b5 0 fun s22=>marksP w20 l19 fun w23=>R (Qy s22) w23|false=>False):Cw 22 #[Value.pointer t0,Qz t1,Qz t2] w R:=
 ckF Tryz.func22 (nd (nd (.node (nd (.rng [(4,.one (.box)),(5,.one (.box)),(6,.one (.sl)),(7,.one (.box)),(10,.one (.clo))] .nil)) .nil))) h (by kernel_rfl) (by kernel_rfl)
theorem F22b0_ok(t4:Nat)(t5:Nat)(t6:Sl)(t7:Nat)(t10:Nat×Array Value)(x11:Int×Int)(l D n₀:Nat)(Jn:World->Prop)(Jx:Code->World->Prop)(W:World){g:Nat->Value}(h:AllocP W (Obj.cells #[Qz 0,Qz 0] 40) fun b1 w2=>#[Qz x11.1,Qz x11.2].size=2/\StoreP w2 b1 0 [Qz x11.1,Qz x11.2] fun w3=>([]:List Df)=[]/\(w3.1[l]? =W.1[l]? /\w3.1[D]? =W.1[D]?)/\∀(w12:World),Stb n₀ w3 w12->Its w3 w12->(∃y15:Loop,w12.1[l]? =some (Obj.loop y15))->Qi w12 b1 (0+0) fun n19=>∃n20:Int,w12.cell? ⟨t5,0,none⟩=some (Qz n20)/\IfB (decide (n20<n19)) ((w12.1[l]? =w12.1[l]? /\w12.1[D]? =w12.1[D]?)/\Jx (Code.exit 0) w12) (Qi w12 b1 (0+0) fun n29=>∃n30:Int,w12.cell? ⟨t4,0,none⟩=some (Qz n30)/\IfB (decide (n30<=n29)) (∃s31:Sl,w12.cell? ⟨t7,0,none⟩=some (Qy s31)/\∃(x32:Int×Int),CellsAt w12 b1 0 [Qz x32.1,Qz x32.2]/\1*2<=16777216/\AllocP w12 (Obj.cells #[Qz x32.1,Qz x32.2] 40) fun b33 w34=>∃(l35:List Value),ReadC w34 (some ⟨b33,0,none⟩) (1*2) l35/\AppendP tt40 40 w34 s31.1 s31.2 s31.3 1 l35 fun s36 w37=>#[Qy s36].size=1/\StoreP w37 t7 0 [Qy s36] fun w38=>(w38.1[l]? =w12.1[l]? /\w38.1[D]? =w12.1[D]?)/\Jn w38) ((w12.1[l]? =w12.1[l]? /\w12.1[D]? =w12.1[D]?)/\Jn w12))):
  BodyP Tryz.prog tb Tryz.f22.ntmps l D n₀ R22_0a (rP R22_0) (rA R22_0) (rB R22_0) (frC g [(4,Value.pointer (some ⟨t4,0,none⟩)),(5,Value.pointer (some ⟨t5,0,none⟩)),(6,Value.slice t6.1 t6.2 t6.3),(7,Value.pointer (some ⟨t7,0,none⟩)),(10,Value.func (Fn.func t10.1) #[] t10.2)]) Jn Jx [Value.agg #[Value.int IntKind.i64 x11.1,Value.int IntKind.i64 x11.2]] W:=
 Eq.mp (by kernel_rfl) h
def F37k1(t0:Sl)(t2:Sl)(t1:Int)(w:World)(R:RV):Prop:=IfB (decide ((t0.c:Int)<IntKind.i64.wrap ((t0.n:Int)+(t2.n:Int)))) ((0<=t1/\t1<=(t0.3:Int))/\(0<=IntKind.i64.wrap (IntKind.i64.wrap ((t0.2:Int)+(t2.2:Int))-t1)/\IntKind.i64.wrap (IntKind.i64.wrap ((t0.2:Int)+(t2.2:Int))-t1)<=281474976710656/\IntKind.i64.wrap (IntKind.i64.wrap ((t0.2:Int)+(t2.2:Int))-t1)*((16:Nat):Int)<=281474976710656)/\AppendP tt40 40 w (slAddr t0.1 t0.3 0 2) t1.toNat t0.3 (IntKind.i64.wrap (IntKind.i64.wrap ((t0.2:Int)+(t2.2:Int))-t1)).toNat (zc #[Qz 0,Qz 0] (IntKind.i64.wrap (IntKind.i64.wrap ((t0.2:Int)+(t2.2:Int))-t1)).toNat) fun s4 w5=>(0<=t1/\t1<=(s4.2:Int))/\CopyP w5 2 (slAddr s4.1 s4.3 t1.toNat 2) (s4.2-t1.toNat) t2.1 t2.2 fun(n6:Int) (w7:World)=>(0<=IntKind.i64.wrap (t1+(t2.2:Int))/\IntKind.i64.wrap (t1+(t2.2:Int))<=(s4.2:Int))/\(0<=t1/\t1<=(t0.2:Int))/\CopyP w7.drew 2 (slAddr s4.1 s4.3 (IntKind.i64.wrap (t1+(t2.2:Int))).toNat 2) (s4.2-(IntKind.i64.wrap (t1+(t2.2:Int))).toNat) (slAddr t0.1 t0.3 t1.toNat 2) (t0.2-t1.toNat) fun(n8:Int) (w9:World)=>R (Qy s4) w9) ((0<=IntKind.i64.wrap ((t0.2:Int)+(t2.2:Int))/\IntKind.i64.wrap ((t0.2:Int)+(t2.2:Int))<=(t0.3:Int))/\(0<=IntKind.i64.wrap (t1+(t2.2:Int))/\IntKind.i64.wrap (t1+(t2.2:Int))<=(((IntKind.i64.wrap ((t0.2:Int)+(t2.2:Int))).toNat:Nat):Int))/\Cx 70 #[Qy t2,Value.slice (slAddr (slAddr t0.1 t0.3 0 2) t0.3 (IntKind.i64.wrap (t1+(t2.2:Int))).toNat 2) ((IntKind.i64.wrap ((t0.2:Int)+(t2.2:Int))).toNat-(IntKind.i64.wrap (t1+(t2.2:Int))).toNat) (t0.3-(IntKind.i64.wrap (t1+(t2.2:Int))).toNat)] w fun v10 w11=>∃t12:Bool,v10=Value.bool t12/\IfB (!t12) ((0<=IntKind.i64.wrap (t1+(t2.2:Int))/\IntKind.i64.wrap (t1+(t2.2:Int))<=(((IntKind.i64.wrap ((t0.2:Int)+(t2.2:Int))).toNat:Nat):Int))/\(0<=t1/\t1<=(((IntKind.i64.wrap ((t0.2:Int)+(t2.2:Int))).toNat:Nat):Int))/\CopyP w11.drew 2 (slAddr (slAddr t0.1 t0.3 0 2) t0.3 (IntKind.i64.wrap (t1+(t2.2:Int))).toNat 2) ((IntKind.i64.wrap ((t0.2:Int)+(t2.2:Int))).toNat-(IntKind.i64.wrap (t1+(t2.2:Int))).toNat) (slAddr (slAddr t0.1 t0.3 0 2) t0.3 t1.toNat 2) ((IntKind.i64.wrap ((t0.2:Int)+(t2.2:Int))).toNat-t1.toNat) fun(n13:Int) (w14:World)=>(0<=t1/\t1<=(((IntKind.i64.wrap ((t0.2:Int)+(t2.2:Int))).toNat:Nat):Int))/\CopyP w14 2 (slAddr (slAddr t0.1 t0.3 0 2) t0.3 t1.toNat 2) ((IntKind.i64.wrap ((t0.2:Int)+(t2.2:Int))).toNat-t1.toNat) t2.1 t2.2 fun(n15:Int) (w16:World)=>R (Value.slice (slAddr t0.1 t0.3 0 2) (IntKind.i64.wrap ((t0.2:Int)+(t2.2:Int))).toNat t0.3) w16) ((0<=(t0.2:Int)/\(t0.2:Int)<=(((IntKind.i64.wrap ((t0.2:Int)+(t2.2:Int))).toNat:Nat):Int))/\CopyP w11 2 (slAddr (slAddr t0.1 t0.3 0 2) t0.3 ((t0.2:Int)).toNat 2) ((IntKind.i64.wrap ((t0.2:Int)+(t2.2:Int))).toNat-((t0.2:Int)).toNat) t2.1 t2.2 fun(n17:Int) (w18:World)=>(0<=t1/\t1<=(((IntKind.i64.wrap ((t0.2:Int)+(t2.2:Int))).toNat:Nat):Int))/\Cx 71 #[Value.slice (slAddr (slAddr t0.1 t0.3 0 2) t0.3 t1.toNat 2) ((IntKind.i64.wrap ((t0.2:Int)+(t2.2:Int))).toNat-t1.toNat) (t0.3-t1.toNat),Qz (t2.2:Int)] w18 fun v19 w20=>∃y21:Unit,v19=Value.tuple #[]/\R (Value.slice (slAddr t0.1 t0.3 0 2) (IntKind.i64.wrap ((t0.2:Int)+(t2.2:Int))).toNat t0.3) w20))
def F37(t0:Sl)(t1:Int)(t2:Sl)(w:World)(R:RV):Prop:=(0<=t1/\t1<=(t0.2:Int))/\IfB ((t2.2:Int) == 0) (R (Qy t0) w) (IfB (t1 == (t0.2:Int)) (∃(l1:List Value),ReadC w t2.1 (t2.2*2) l1/\AppendP tt40 40 w t0.1 t0.2 t0.3 t2.2 l1 fun s2 w3=>R (Qy s2) w3) (F37k1 t0 t2 t1 w R))
theorem F37_ok(t0:Sl)(t1:Int)(t2:Sl)(w:World)(R:RV)(h:F37 t0 t1 t2 w R):Cw 37 #[Qy t0,Qz t1,Qy t2] w R:=
 ckF Tryz.func37 (nd (nd (nd (nd (nd (nd (.node (nd (.node (nd (nd (.node (.draw (sts [0,1,2,3,4,5,6,7] (.ac 8 [] .fin .non))) .nil))) .nil)) (nd (.node (nd (.node (.node (.draw (sts [0,1,2,3,4,5,6,7] (.ac 8 [] .fin .non))) .nil) .nil)) .nil))))))))) h (by kernel_rfl) (by kernel_rfl)
def F39k1(t0:Sl)(t2:Sl)(t1:Int)(w:World)(R:RV):Prop:=IfB (decide ((t0.c:Int)<IntKind.i64.wrap ((t0.n:Int)+(t2.n:Int)))) ((0<=t1/\t1<=(t0.3:Int))/\(0<=IntKind.i64.wrap (IntKind.i64.wrap ((t0.2:Int)+(t2.2:Int))-t1)/\IntKind.i64.wrap (IntKind.i64.wrap ((t0.2:Int)+(t2.2:Int))-t1)<=281474976710656/\IntKind.i64.wrap (IntKind.i64.wrap ((t0.2:Int)+(t2.2:Int))-t1)*((24:Nat):Int)<=281474976710656)/\AppendP tt94 94 w (slAddr t0.1 t0.3 0 1) t1.toNat t0.3 (IntKind.i64.wrap (IntKind.i64.wrap ((t0.2:Int)+(t2.2:Int))-t1)).toNat (zc #[Value.slice none 0 0] (IntKind.i64.wrap (IntKind.i64.wrap ((t0.2:Int)+(t2.2:Int))-t1)).toNat) fun s4 w5=>(0<=t1/\t1<=(s4.2:Int))/\CopyP w5 1 (slAddr s4.1 s4.3 t1.toNat 1) (s4.2-t1.toNat) t2.1 t2.2 fun(n6:Int) (w7:World)=>(0<=IntKind.i64.wrap (t1+(t2.2:Int))/\IntKind.i64.wrap (t1+(t2.2:Int))<=(s4.2:Int))/\(0<=t1/\t1<=(t0.2:Int))/\CopyP w7.drew 1 (slAddr s4.1 s4.3 (IntKind.i64.wrap (t1+(t2.2:Int))).toNat 1) (s4.2-(IntKind.i64.wrap (t1+(t2.2:Int))).toNat) (slAddr t0.1 t0.3 t1.toNat 1) (t0.2-t1.toNat) fun(n8:Int) (w9:World)=>R (Qy s4) w9) ((0<=IntKind.i64.wrap ((t0.2:Int)+(t2.2:Int))/\IntKind.i64.wrap ((t0.2:Int)+(t2.2:Int))<=(t0.3:Int))/\(0<=IntKind.i64.wrap (t1+(t2.2:Int))/\IntKind.i64.wrap (t1+(t2.2:Int))<=(((IntKind.i64.wrap ((t0.2:Int)+(t2.2:Int))).toNat:Nat):Int))/\Cx 72 #[Qy t2,Value.slice (slAddr (slAddr t0.1 t0.3 0 1) t0.3 (IntKind.i64.wrap (t1+(t2.2:Int))).toNat 1) ((IntKind.i64.wrap ((t0.2:Int)+(t2.2:Int))).toNat-(IntKind.i64.wrap (t1+(t2.2:Int))).toNat) (t0.3-(IntKind.i64.wrap (t1+(t2.2:Int))).toNat)] w fun v10 w11=>∃t12:Bool,v10=Value.bool t12/\IfB (!t12) ((0<=IntKind.i64.wrap (t1+(t2.2:Int))/\IntKind.i64.wrap (t1+(t2.2:Int))<=(((IntKind.i64.wrap ((t0.2:Int)+(t2.2:Int))).toNat:Nat):Int))/\(0<=t1/\t1<=(((IntKind.i64.wrap ((t0.2:Int)+(t2.2:Int))).toNat:Nat):Int))/\CopyP w11.drew 1 (slAddr (slAddr t0.1 t0.3 0 1) t0.3 (IntKind.i64.wrap (t1+(t2.2:Int))).toNat 1) ((IntKind.i64.wrap ((t0.2:Int)+(t2.2:Int))).toNat-(IntKind.i64.wrap (t1+(t2.2:Int))).toNat) (slAddr (slAddr t0.1 t0.3 0 1) t0.3 t1.toNat 1) ((IntKind.i64.wrap ((t0.2:Int)+(t2.2:Int))).toNat-t1.toNat) fun(n13:Int) (w14:World)=>(0<=t1/\t1<=(((IntKind.i64.wrap ((t0.2:Int)+(t2.2:Int))).toNat:Nat):Int))/\CopyP w14 1 (slAddr (slAddr t0.1 t0.3 0 1) t0.3 t1.toNat 1) ((IntKind.i64.wrap ((t0.2:Int)+(t2.2:Int))).toNat-t1.toNat) t2.1 t2.2 fun(n15:Int) (w16:World)=>R (Value.slice (slAddr t0.1 t0.3 0 1) (IntKind.i64.wrap ((t0.2:Int)+(t2.2:Int))).toNat t0.3) w16) ((0<=(t0.2:Int)/\(t0.2:Int)<=(((IntKind.i64.wrap ((t0.2:Int)+(t2.2:Int))).toNat:Nat):Int))/\CopyP w11 1 (slAddr (slAddr t0.1 t0.3 0 1) t0.3 ((t0.2:Int)).toNat 1) ((IntKind.i64.wrap ((t0.2:Int)+(t2.2:Int))).toNat-((t0.2:Int)).toNat) t2.1 t2.2 fun(n17:Int) (w18:World)=>(0<=t1/\t1<=(((IntKind.i64.wrap ((t0.2:Int)+(t2.2:Int))).toNat:Nat):Int))/\Cx 73 #[Value.slice (slAddr (slAddr t0.1 t0.3 0 1) t0.3 t1.toNat 1) ((IntKind.i64.wrap ((t0.2:Int)+(t2.2:Int))).toNat-t1.toNat) (t0.3-t1.toNat),Qz (t2.2:Int)] w18 fun v19 w20=>∃y21:Unit,v19=Value.tuple #[]/\R (Value.slice (slAddr t0.1 t0.3 0 1) (IntKind.i64.wrap ((t0.2:Int)+(t2.2:Int))).toNat t0.3) w20))
def F39(t0:Sl)(t1:Int)(t2:Sl)(w:World)(R:RV):Prop:=(0<=t1/\t1<=(t0.2:Int))/\IfB ((t2.2:Int) == 0) (R (Qy t0) w) (IfB (t1 == (t0.2:Int)) (∃(l1:List Value),ReadC w t2.1 (t2.2*1) l1/\AppendP tt94 94 w t0.1 t0.2 t0.3 t2.2 l1 fun s2 w3=>R (Qy s2) w3) (F39k1 t0 t2 t1 w R))
theorem F39_ok(t0:Sl)(t1:Int)(t2:Sl)(w:World)(R:RV)(h:F39 t0 t1 t2 w R):Cw 39 #[Qy t0,Qz t1,Qy t2] w R:=
 ckF Tryz.func39 (nd (nd (nd (nd (nd (nd (.node (nd (.node (nd (nd (.node (.draw (sts [0,1,2,3,4,5,6,7] (.ac 8 [] .fin .non))) .nil))) .nil)) (nd (.node (nd (.node (.node (.draw (sts [0,1,2,3,4,5,6,7] (.ac 8 [] .fin .non))) .nil) .nil)) .nil))))))))) h (by kernel_rfl) (by kernel_rfl)
def F38(t0:Sl)(w:World)(R:RV):Prop:=IfB t0.1.isNone (R (Value.slice none 0 0) w) (0*2<=16777216/\AllocP w (Obj.cells #[] 40) fun b1 w2=>∃(l3:List Value),ReadC w2 t0.1 (t0.2*2) l3/\AppendP tt40 40 w2 (some ⟨b1,0,none⟩) 0 0 t0.2 l3 fun s4 w5=>R (Qy s4) w5)
theorem F38_ok(t0:Sl)(w:World)(R:RV)(h:F38 t0 w R):Cw 38 #[Qy t0] w R:=
 ckF Tryz.func38 .nil h (by kernel_rfl) (by kernel_rfl)
def F78(t0:Sl)(t1:Int)(t2:Int)(w:World)(R:RV):Prop:=(0<=t1/\t1<=t2/\t2<=(t0.2:Int)/\(t0.2:Int)<=(t0.3:Int))/\IfB (t1 == t2) (R (Qy t0) w) ((0<=t1/\t1<=(t0.3:Int))/\(0<=t2/\t2<=(t0.2:Int))/\∃(l1:List Value),ReadC w.drew (slAddr t0.1 t0.3 t2.toNat 2) ((t0.2-t2.toNat)*2) l1/\AppendP tt40 40 w.drew (slAddr t0.1 t0.3 0 2) t1.toNat t0.3 (t0.2-t2.toNat) l1 fun s2 w3=>(0<=(s2.2:Int)/\(s2.2:Int)<=(t0.2:Int)/\(t0.2:Int)<=(s2.3:Int))/\match slAddr s2.1 s2.3 ((s2.2:Int)).toNat 2 with|none=>R (Qy s2) w3|some ({ block:=b5,off:=b6,spot:=none }:Addr)=>StoreP w3 b5 b6 (zc #[Qz 0,Qz 0] (((t0.2:Int)).toNat-((s2.2:Int)).toNat)) fun w7=>R (Qy s2) w7|some y8=>False)
theorem F78_ok(t0:Sl)(t1:Int)(t2:Int)(w:World)(R:RV)(h:F78 t0 t1 t2 w R):Cw 78 #[Qy t0,Qz t1,Qz t2] w R:=
 ckF Tryz.func78 (nd (nd (nd (nd (.node (.draw (sts [0,1,2,3,4,5] (.ac 6 [] (.st 7 .fin) .non))) .nil))))) h (by kernel_rfl) (by kernel_rfl)
def F79(t0:Sl)(t1:Int)(t2:Int)(w:World)(R:RV):Prop:=(0<=t1/\t1<=t2/\t2<=(t0.2:Int)/\(t0.2:Int)<=(t0.3:Int))/\IfB (t1 == t2) (R (Qy t0) w) ((0<=t1/\t1<=(t0.3:Int))/\(0<=t2/\t2<=(t0.2:Int))/\∃(l1:List Value),ReadC w.drew (slAddr t0.1 t0.3 t2.toNat 1) ((t0.2-t2.toNat)*1) l1/\AppendP tt94 94 w.drew (slAddr t0.1 t0.3 0 1) t1.toNat t0.3 (t0.2-t2.toNat) l1 fun s2 w3=>(0<=(s2.2:Int)/\(s2.2:Int)<=(t0.2:Int)/\(t0.2:Int)<=(s2.3:Int))/\match slAddr s2.1 s2.3 ((s2.2:Int)).toNat 1 with|none=>R (Qy s2) w3|some ({ block:=b5,off:=b6,spot:=none }:Addr)=>StoreP w3 b5 b6 (zc #[Value.slice none 0 0] (((t0.2:Int)).toNat-((s2.2:Int)).toNat)) fun w7=>R (Qy s2) w7|some y8=>False)
theorem F79_ok(t0:Sl)(t1:Int)(t2:Int)(w:World)(R:RV)(h:F79 t0 t1 t2 w R):Cw 79 #[Qy t0,Qz t1,Qz t2] w R:=
 ckF Tryz.func79 (nd (nd (nd (nd (.node (.draw (sts [0,1,2,3,4,5] (.ac 6 [] (.st 7 .fin) .non))) .nil))))) h (by kernel_rfl) (by kernel_rfl)
def F67j1(t0:Sl)(t1:Nat×Array Value)(R:RV)(y1:Nat->Int->World->Prop)(b3:Nat)(n4:Int)(w5:World):Prop:=IfB (decide (n4<(t0.n:Int))) (Qx t0.1 n4 (t0.2:Int) fun b8 b9=>Qs w5 b8 (b9+n4.toNat) fun s10=>Cx t1.1 { toList:=Qy s10::t1.snd.1 } w5 fun v11 w12=>∃t13:Bool,v11=Value.bool t13/\IfB t13 (R (Qz n4) w12) (([]:List Df)=[]/\∃b14:Nat,b14<b3/\y1 b14 (IntKind.i64.wrap (n4+1)) w12)) (R (Qz (-1:Int)) w5)
def F67(t0:Sl)(t1:Nat×Array Value)(w:World)(R:RV):Prop:=Ql (α:=Int) 0 w fun y1 b3 n4 w5=>(F67j1 t0 t1 R y1 b3 n4 w5)
theorem F67_ok(t0:Sl)(t1:Nat×Array Value)(w:World)(R:RV)(h:F67 t0 t1 w R):Cw 67 #[Qy t0,Value.func (Fn.func t1.1) #[] t1.2] w R:=
 ckF Tryz.func67 (nd (.node (nd (.loop [(8,oi)] (rg [4,5,8,18]) .nil)) .nil)) h (by kernel_rfl) (by kernel_rfl)
def F68j1(t0:Sl)(t1:Int)(t2:Nat×Array Value)(R:RV)(y1:Nat->Int×Int->World->Prop)(b3:Nat)(x4:Int×Int)(w5:World):Prop:=IfB (decide (x4.fst<x4.snd)) ((0:Int)<=1/\Qx t0.1 (IntKind.i64.wrap ((IntKind.u64.wrap (IntKind.i64.wrap (x4.1+x4.2))).fdiv (2^min (Int.toNat 1) IntKind.u64.bits))) (t0.2:Int) fun b8 b9=>∃(x10:Int×Int),CellsAt w5 b8 (b9+(IntKind.i64.wrap ((IntKind.u64.wrap (IntKind.i64.wrap (x4.1+x4.2))).fdiv (2^min (Int.toNat 1) IntKind.u64.bits))).toNat*2) [Qz x10.1,Qz x10.2]/\Cx t2.1 { toList:=Value.agg #[Qz x10.1,Qz x10.2]::Qz t1::t2.snd.1 } w5 fun v11 w12=>∃n13:Int,v11=Qz n13/\IfB (decide (n13<0)) (([]:List Df)=[]/\∃b14:Nat,b14<b3/\y1 b14 (IntKind.i64.wrap (IntKind.i64.wrap ((IntKind.u64.wrap (IntKind.i64.wrap (x4.1+x4.2))).fdiv (2^min (Int.toNat 1) IntKind.u64.bits))+1),x4.2) w12) (([]:List Df)=[]/\∃b15:Nat,b15<b3/\y1 b15 (x4.1,IntKind.i64.wrap ((IntKind.u64.wrap (IntKind.i64.wrap (x4.1+x4.2))).fdiv (2^min (Int.toNat 1) IntKind.u64.bits))) w12)) (IfB (decide (x4.fst<(t0.n:Int))) (Qx t0.1 x4.1 (t0.2:Int) fun b16 b17=>∃(x18:Int×Int),CellsAt w5 b16 (b17+x4.1.toNat*2) [Qz x18.1,Qz x18.2]/\Cx t2.1 { toList:=Value.agg #[Qz x18.1,Qz x18.2]::Qz t1::t2.snd.1 } w5 fun v19 w20=>∃n21:Int,v19=Qz n21/\R (Value.tuple #[Qz x4.1,Value.bool (n21 == 0)]) w20) (R (Value.tuple #[Qz x4.1,Value.bool false]) w5))
def F68(t0:Sl)(t1:Int)(t2:Nat×Array Value)(w:World)(R:RV):Prop:=Ql (α:=Int×Int) (0,(t0.2:Int)) w fun y1 b3 x4 w5=>(F68j1 t0 t1 t2 R y1 b3 x4 w5)
theorem F68_ok(t0:Sl)(t1:Int)(t2:Nat×Array Value)(w:World)(R:RV)(h:F68 t0 t1 t2 w R):Cw 68 #[Qy t0,Qz t1,Value.func (Fn.func t2.1) #[] t2.2] w R:=
 ckF Tryz.func68 (nd (nd (nd (.node (.loop [(9,oi),(10,oi)] (rg [9,11,15,34]) .nil) .nil)))) h (by kernel_rfl) (by kernel_rfl)
def F118j2(t0:Sl)(R:RV)(y15:Nat->Sl×Int->World->Prop)(b17:Nat)(x18:Sl×Int)(w19:World):Prop:=IfB (decide (x18.snd<(t0.n:Int))) (Qx t0.1 x18.2 (t0.2:Int) fun b22 b23=>Qs w19 b22 (b23+x18.2.toNat) fun s24=>∃(l25:List Value),ReadC w19 s24.1 (s24.2*2) l25/\AppendP tt40 40 w19 x18.fst.1 x18.fst.2 x18.fst.3 s24.2 l25 fun s26 w27=>([]:List Df)=[]/\∃b28:Nat,b28<b17/\y15 b28 ({ p:=s26.1,n:=s26.2,c:=s26.3 },IntKind.i64.wrap (x18.2+1)) w27) (R (Qy x18.fst) w19)
def F118j1(t0:Sl)(R:RV)(y1:Nat->Int×Int->World->Prop)(b3:Nat)(x4:Int×Int)(w5:World):Prop:=IfB (decide (x4.snd<(t0.n:Int))) (Qx t0.1 x4.2 (t0.2:Int) fun b8 b9=>Qs w5 b8 (b9+x4.2.toNat) fun s10=>IfB (decide (IntKind.i64.wrap (x4.fst+(s10.n:Int))<0)) False (([]:List Df)=[]/\∃b11:Nat,b11<b3/\y1 b11 (IntKind.i64.wrap (x4.1+(s10.2:Int)),IntKind.i64.wrap (x4.2+1)) w5)) (Qu' 139 #[Value.slice none 0 0,Qz x4.1] w5 fun s14 w13=>Ql (α:=Sl×Int) ({ p:=s14.1,n:=s14.2,c:=s14.3 },0) w13 fun y15 b17 x18 w19=>(F118j2 t0 R y15 b17 x18 w19))
theorem F118_ok(t0:Sl)(w:World)(R:RV)(h:Ql (α:=Int×Int) (0,0) w fun y1 b3 x4 w5=>(F118j1 t0 R y1 b3 x4 w5)):Cw 118 #[Qy t0] w R:=
 ckF Tryz.func118 (nd (nd (.node (nd (.loop [(3,oi),(11,oi)] (rg [3,3,5,5,11,22]) .nil)) (nd (.node (nd (.loop [(6,.one (.sl)),(27,oi)] (rg [6,6,8,8,27,34]) .nil)) .nil))))) h (by kernel_rfl) (by kernel_rfl)
def F139(t0:Sl)(t1:Int)(w:World)(R:RV):Prop:=IfB (decide (t1<0)) False (IfB (decide (0<IntKind.i64.wrap (t1-IntKind.i64.wrap ((t0.c:Int)-(t0.n:Int))))) ((0<=(t0.3:Int)/\(t0.3:Int)<=(t0.3:Int))/\(0<=IntKind.i64.wrap (t1-IntKind.i64.wrap ((t0.3:Int)-(t0.2:Int)))/\IntKind.i64.wrap (t1-IntKind.i64.wrap ((t0.3:Int)-(t0.2:Int)))<=281474976710656/\IntKind.i64.wrap (t1-IntKind.i64.wrap ((t0.3:Int)-(t0.2:Int)))*((16:Nat):Int)<=281474976710656)/\AppendP tt40 40 w (slAddr t0.1 t0.3 0 2) ((t0.3:Int)).toNat t0.3 (IntKind.i64.wrap (t1-IntKind.i64.wrap ((t0.3:Int)-(t0.2:Int)))).toNat (zc #[Qz 0,Qz 0] (IntKind.i64.wrap (t1-IntKind.i64.wrap ((t0.3:Int)-(t0.2:Int)))).toNat) fun s1 w2=>(0<=(t0.2:Int)/\(t0.2:Int)<=(s1.3:Int))/\R (Value.slice (slAddr s1.1 s1.3 0 2) ((t0.2:Int)).toNat s1.3) w2) (R (Qy t0) w))
theorem F139_ok(t0:Sl)(t1:Int)(w:World)(R:RV)(h:F139 t0 t1 w R):Cw 139 #[Qy t0,Qz t1] w R:=
 ckF Tryz.func139 .nil h (by kernel_rfl) (by kernel_rfl)
def F21j1(t0:Sl)(t1:Sl)(R:RV)(y1:Nat->Int->World->Prop)(b3:Nat)(n4:Int)(w5:World):Prop:=IfB (decide (n4<(t0.n:Int))) (Qx t0.1 n4 (t0.2:Int) fun b8 b9=>∃(x10:Int×Int),CellsAt w5.drew b8 (b9+n4.toNat*2) [Qz x10.1,Qz x10.2]/\Qx t1.1 n4 (t1.2:Int) fun b11 b12=>∃(x13:Int×Int),CellsAt w5.drew b11 (b12+n4.toNat*2) [Qz x13.1,Qz x13.2]/\∃t14:Bool,EqAt Tryz.prog 40 (Value.agg #[Qz x10.1,Qz x10.2]) (Value.agg #[Qz x13.1,Qz x13.2]) t14/\IfB (!t14) (R (Value.bool false) w5.drew) (([]:List Df)=[]/\∃b15:Nat,b15<b3/\y1 b15 (IntKind.i64.wrap (n4+1)) w5.drew)) (R (Value.bool true) w5)
theorem F21_ok(t0:Sl)(t1:Sl)(w:World)(R:RV)(h:IfB ((t0.2:Int) != (t1.2:Int)) (R (Value.bool false) w) (Ql (α:=Int) 0 w fun y1 b3 n4 w5=>(F21j1 t0 t1 R y1 b3 n4 w5))):Cw 21 #[Qy t0,Qy t1] w R:=
 ckF Tryz.func21 (nd (nd (.node (nd (.loop [(5,oi)] (rg [4,5,11,25]) (nd (.node (.node (.draw (sts [0,1,2,3,4,5,6,7,8] .fin)) .nil) .nil)))) .nil))) h (by kernel_rfl) (by kernel_rfl)
abbrev Pr:=Int×Int
def prV(x:Pr):List Value:=[.int .i64 x.1,.int .i64 x.2]
def prs(l:List Pr):List Value:=l.flatMap prV
theorem prs_cons(x:Pr)(l:List Pr):prs (x::l)=prV x++prs l:=rfl
theorem prs_append(l m:List Pr):prs (l++m)=prs l++prs m:=by simp[prs]
theorem prs_len(l:List Pr):(prs l).length=l.length*2:=by
 induction l with
 | nil=>rfl
 | cons x l ih=>rw[prs_cons,List.length_append,ih];simp[prV];omega
theorem prs_take:∀(l:List Pr)(i:Nat),(prs l).take (i*2)=prs (l.take i)
 | [],i=>by simp[prs]
 | x::l,0=>by simp[prs]
 | x::l,i+1=>by
  rw[prs_cons,List.take_succ_cons,prs_cons,<-prs_take l i,show (i+1)*2=i*2+1+1 by omega]
  simp[prV]
theorem prs_drop:∀(l:List Pr)(i:Nat),(prs l).drop (i*2)=prs (l.drop i)
 | [],i=>by simp[prs]
 | x::l,0=>by simp[prs]
 | x::l,i+1=>by
  rw[prs_cons,List.drop_succ_cons,<-prs_drop l i,show (i+1)*2=i*2+1+1 by omega]
  simp[prV]
theorem prs_elem{l:List Pr}{i:Nat}{x:Pr}(h:l[i]? =some x):((prs l).drop (i*2)).take 2=prV x:=by
 obtain⟨hi,rfl⟩:=List.getElem?_eq_some_iff.1 h
 rw[prs_drop,List.drop_eq_getElem_cons hi,prs_cons];rfl
theorem prs_one(l:List Pr):One (prs l):=by
 intro x hx
 simp only[prs,List.mem_flatMap,prV] at hx
 obtain⟨y,_,hx⟩:=hx
 rcases List.mem_cons.1 hx with rfl|hx
 ·rfl
 ·rcases List.mem_cons.1 hx with rfl|hx
  ·rfl
  ·cases hx
theorem slVs_one(hs:List Sl):One (hs.map slV):=by
 intro x hx
 obtain⟨s,_,rfl⟩:=List.mem_map.1 hx
 rfl
abbrev Pg:=Sl×List Pr
abbrev hV(x:Pg):Value:=slV x.1
def Dis(x y:Pg):Prop:=∀i∈blk x.1,i∉blk y.1
theorem Dis.symm{x y:Pg}(h:Dis x y):Dis y x:=fun i hi hx=>h i hx hi
structure St(w:World)(b:Nat)(s:Sl)(ps:List Pg):Prop where
 box:∃T,w.heap[b]? =some (.cells #[slV s] T (0,0))
 arr:OwS w s 1 (ps.map hV)
 pg:∀x∈ps,OwS w x.1 2 (prs x.2)
 nd:ps.Pairwise Dis
 sep:∀x∈ps,∀i∈blk x.1,i≠b/\i∉blk s
 self:b∉blk s
def inSt(b:Nat)(s:Sl)(ps:List Pg)(i:Nat):Prop:=i=b\/i∈blk s\/∃x∈ps,i∈blk x.1
theorem St.lt{w:World}{b:Nat}{s:Sl}{ps:List Pg}(h:St w b s ps){i:Nat}(hi:inSt b s ps i):i<w.heap.size:=by
 rcases hi with rfl|hi|⟨x,hx,hi⟩
 ·obtain⟨T,hT⟩:=h.box;exact heap_lt hT
 ·exact h.arr.lt i hi
 ·exact(h.pg x hx).lt i hi
theorem St.ch{F:Nat->Prop}{w w':World}{b:Nat}{s:Sl}{ps:List Pg}(h:St w b s ps)(hc:Ch F w w')(hF:∀i,inSt b s ps i->¬F i):St w' b s ps:=by
 obtain⟨T,hT⟩:=h.box
 exact⟨⟨T,hc.at hT (hF _ (.inl rfl))⟩,h.arr.ch hc fun i hi=>hF i (.inr (.inl hi)),fun x hx=>(h.pg x hx).ch hc fun i hi=>hF i (.inr (.inr ⟨x,hx,hi⟩)),h.nd,h.sep,h.self⟩
theorem St.ext{w w':World}{b:Nat}{s:Sl}{ps:List Pg}(h:St w b s ps)(hc:Ext w w'):St w' b s ps:=h.ch hc fun _ _=>id
theorem St.cell{w:World}{b:Nat}{s:Sl}{ps:List Pg}(h:St w b s ps):w.cell? ⟨b,0,none⟩=some (slV s):=by
 obtain⟨T,hT⟩:=h.box
 rw[cell_of hT];rfl
theorem St.n{w:World}{b:Nat}{s:Sl}{ps:List Pg}(h:St w b s ps):s.n=ps.length:=by
 rw[h.arr.len1,List.length_map]
theorem St.page{w:World}{b:Nat}{s:Sl}{ps:List Pg}(h:St w b s ps){i:Nat}{x:Pg}(hx:ps[i]? =some x):
  ∃a,s.p=some ⟨a,0,none⟩/\w.cell? ⟨a,i,none⟩=some (hV x)/\OwS w x.1 2 (prs x.2)/\x.1.n=x.2.length:=by
 obtain⟨a,ha,hc⟩:=h.arr.elem1 (i:=i) (v:=hV x) (by rw[List.getElem?_map,hx];rfl)
 have ho:=h.pg x (List.mem_of_getElem? hx)
 exact⟨a,ha,hc,ho,by have:=ho.len;rw[prs_len] at this;omega⟩
theorem pageE{w:World}{t:Sl}{p:List Pr}(h:OwS w t 2 (prs p)){i:Nat}{x:Pr}(hx:p[i]? =some x):∃b,t.p=some ⟨b,0,none⟩/\CellsAt w b (i*2) [.int .i64 x.1,.int .i64 x.2]:=by
 have hi:i<t.n:=by
  have:=h.len;rw[prs_len] at this
  have:=(List.getElem?_eq_some_iff.1 hx).1
  omega
 exact h.elem hi (prs_elem hx)
structure StH(w:World)(b:Nat)(s:Sl)(L:List Pg)(c:Value)(R:List Pg):Prop where
 box:∃T,w.heap[b]? =some (.cells #[slV s] T (0,0))
 arr:OwS w s 1 (L.map hV++c::R.map hV)
 pg:∀x∈L++R,OwS w x.1 2 (prs x.2)
 nd:(L++R).Pairwise Dis
 sep:∀x∈L++R,∀i∈blk x.1,i≠b/\i∉blk s
 self:b∉blk s
def FreeOf(b:Nat)(s:Sl)(ps:List Pg)(t:Sl):Prop:=∀i∈blk t,¬inSt b s ps i
theorem St.hole{w:World}{b:Nat}{s:Sl}{L R:List Pg}{x:Pg}(h:St w b s (L++x::R)):StH w b s L (hV x) R/\OwS w x.1 2 (prs x.2)/\FreeOf b s (L++R) x.1:=by
 have hsub:∀y∈L++R,y∈L++x::R:=fun y hy=>by
  rcases List.mem_append.1 hy with hy|hy
  ·exact List.mem_append_left _ hy
  ·exact List.mem_append_right _ (List.mem_cons_of_mem _ hy)
 have hmem:x∈L++x::R:=List.mem_append_right _ (List.mem_cons_self ..)
 have hnd:=h.nd
 rw[List.pairwise_append,List.pairwise_cons] at hnd
 obtain⟨n1,⟨n2,n3⟩,n4⟩:=hnd
 refine⟨⟨h.box,by simpa using h.arr,fun y hy=>h.pg y (hsub y hy),?_,fun y hy=>h.sep y (hsub y hy),h.self⟩,h.pg x hmem,?_⟩
 ·rw[List.pairwise_append]
  exact⟨n1,n3,fun y hy z hz=>n4 y hy z (List.mem_cons_of_mem _ hz)⟩
 ·rintro i hi (rfl|hs|⟨y,hy,hiy⟩)
  ·exact(h.sep x hmem _ hi).1 rfl
  ·exact(h.sep x hmem _ hi).2 hs
  ·rcases List.mem_append.1 hy with hy|hy
   ·exact n4 y hy x (List.mem_cons_self ..) i hiy hi
   ·exact n2 y hy i hi hiy
theorem StH.fill{w:World}{b:Nat}{s:Sl}{L R:List Pg}{x:Pg}(h:StH w b s L (hV x) R)(ho:OwS w x.1 2 (prs x.2))(hf:FreeOf b s (L++R) x.1):St w b s (L++x::R):=by
 have hmem:∀y∈L++x::R,y=x\/y∈L++R:=fun y hy=>by
  rcases List.mem_append.1 hy with hy|hy
  ·exact .inr (List.mem_append_left _ hy)
  ·rcases List.mem_cons.1 hy with rfl|hy
   ·exact .inl rfl
   ·exact .inr (List.mem_append_right _ hy)
 have hnd:=h.nd
 rw[List.pairwise_append] at hnd
 obtain⟨n1,n2,n3⟩:=hnd
 refine⟨h.box,by simpa using h.arr,fun y hy=>?_,?_,fun y hy i hi=>?_,h.self⟩
 ·rcases hmem y hy with rfl|hy
  ·exact ho
  ·exact h.pg y hy
 ·rw[List.pairwise_append,List.pairwise_cons]
  refine⟨n1,⟨fun y hy i hi hiy=>hf i hi (.inr (.inr ⟨y,List.mem_append_right _ hy,hiy⟩)),n2⟩,fun y hy z hz=>?_⟩
  rcases List.mem_cons.1 hz with rfl|hz
  ·exact fun i hi hiz=>hf i hiz (.inr (.inr ⟨y,List.mem_append_left _ hy,hi⟩))
  ·exact n3 y hy z hz
 ·rcases hmem y hy with rfl|hy
  ·exact⟨fun e=>hf i hi (.inl e),fun e=>hf i hi (.inr (.inl e))⟩
  ·exact h.sep y hy i hi
theorem StH.ch{F:Nat->Prop}{w w':World}{b:Nat}{s:Sl}{L R:List Pg}{c:Value}(h:StH w b s L c R)(hc:Ch F w w')(hF:∀i,inSt b s (L++R) i->¬F i):StH w' b s L c R:=by
 obtain⟨T,hT⟩:=h.box
 exact⟨⟨T,hc.at hT (hF _ (.inl rfl))⟩,h.arr.ch hc fun i hi=>hF i (.inr (.inl hi)),fun x hx=>(h.pg x hx).ch hc fun i hi=>hF i (.inr (.inr ⟨x,hx,hi⟩)),h.nd,h.sep,h.self⟩
theorem StH.ext{w w':World}{b:Nat}{s:Sl}{L R:List Pg}{c:Value}(h:StH w b s L c R)(hc:Ext w w'):StH w' b s L c R:=h.ch hc fun _ _=>id
theorem StH.lt{w:World}{b:Nat}{s:Sl}{L R:List Pg}{c:Value}(h:StH w b s L c R){i:Nat}(hi:inSt b s (L++R) i):i<w.heap.size:=by
 rcases hi with rfl|hi|⟨x,hx,hi⟩
 ·obtain⟨T,hT⟩:=h.box;exact heap_lt hT
 ·exact h.arr.lt i hi
 ·exact(h.pg x hx).lt i hi
theorem StH.cell{w:World}{b:Nat}{s:Sl}{L R:List Pg}{c:Value}(h:StH w b s L c R):w.cell? ⟨b,0,none⟩=some (slV s):=by
 obtain⟨T,hT⟩:=h.box
 rw[cell_of hT];rfl
theorem StH.n{w:World}{b:Nat}{s:Sl}{L R:List Pg}{c:Value}(h:StH w b s L c R):s.n=L.length+R.length+1:=by
 rw[h.arr.len1];simp;omega
theorem StH.store{w:World}{b a:Nat}{s:Sl}{L R:List Pg}{c v:Value}{K:World->Prop}(h:StH w b s L c R)(hp:s.p=some ⟨a,0,none⟩)(h1:v.oneCell'=true)
  (hK:∀w',StH w' b s L v R->Ch (fun i=>i∈blk s) w w'->K w'):StoreP w a L.length [v] K:=by
 have hbk:blk s=[a]:=by simp[blk,hp]
 refine h.arr.store hp (by rw[h.n];simp<;>omega) (by intro x hx;simp at hx;subst hx;exact h1) fun w' ho hc=>?_
 have hc':Ch (fun i=>i∈blk s) w w':=hc.mono fun i _ hi=>by rw[hbk,hi];simp
 obtain⟨T,hT⟩:=h.box
 refine hK w' ⟨⟨T,hc'.at hT h.self⟩,?_,fun x hx=>(h.pg x hx).ch hc' fun i hi=>(h.sep x hx i hi).2,h.nd,h.sep,h.self⟩ hc'
 have e:(L.map hV++c::R.map hV).take L.length++[v]++(L.map hV++c::R.map hV).drop (L.length+[v].length)=L.map hV++v::R.map hV:=by
  have hl:(L.map hV).length=L.length:=List.length_map ..
  rw[List.take_append_of_le_length (by rw[hl];exact Nat.le_refl _),List.take_of_length_le (by rw[hl];exact Nat.le_refl _),List.drop_append,hl,List.drop_of_length_le (by rw[hl];simp)]
  simp
 rw[e] at ho
 exact ho
theorem St.setBox{w:World}{b:Nat}{v:Value}{s':Sl}{ps:List Pg}{K:World->Prop}(hb:∃T,w.heap[b]? =some (.cells #[v] T (0,0)))(ha:OwS w s' 1 (ps.map hV))(hpg:∀x∈ps,OwS w x.1 2 (prs x.2))(hnd:ps.Pairwise Dis)
  (hsep:∀x∈ps,∀i∈blk x.1,i≠b/\i∉blk s')(hself:b∉blk s')(hK:∀w',St w' b s' ps->Ch (fun i=>i=b) w w'->K w'):StoreP w b 0 [slV s'] K:=by
 obtain⟨T,hT⟩:=hb
 refine store_one hT (by simp) rfl fun w' hu=>hK w' ⟨⟨T,hu.new⟩,ha.ch hu.ch fun i hi e=>hself (e ▸ hi),fun x hx=>(hpg x hx).ch hu.ch fun i hi=>(hsep x hx i hi).1,hnd,hsep,hself⟩ hu.ch
def StA(A:Nat->Prop)(w:World)(b:Nat)(P:List (List Pr)):Prop:=∃s ps,St w b s ps/\ps.map (·.2)=P/\∀i,inSt b s ps i->A i
theorem StA.ch{A F:Nat->Prop}{w w':World}{b:Nat}{P:List (List Pr)}(h:StA A w b P)(hc:Ch F w w')(hF:∀i,i<w.heap.size->A i->¬F i):StA A w' b P:=by
 obtain⟨s,ps,h1,h2,h3⟩:=h
 exact⟨s,ps,h1.ch hc fun i hi=>hF i (h1.lt hi) (h3 i hi),h2,h3⟩
theorem StA.ext{A:Nat->Prop}{w w':World}{b:Nat}{P:List (List Pr)}(h:StA A w b P)(hc:Ext w w'):StA A w' b P:=h.ch hc fun _ _ _=>id
theorem StA.mono{A B:Nat->Prop}{w:World}{b:Nat}{P:List (List Pr)}(h:StA A w b P)(hB:∀i,i<w.heap.size->A i->B i):StA B w b P:=by
 obtain⟨s,ps,h1,h2,h3⟩:=h
 exact⟨s,ps,h1,h2,fun i hi=>hB i (h1.lt hi) (h3 i hi)⟩
def hd0(p:List Pr):Int:=match p with
 | x::_=>x.1
 | []=>0
def atP(P:List (List Pr))(k:Int):Nat:=(match P.findIdx? (fun p=>decide (k<hd0 p)) with
 | some i=>i
 | none=>P.length)-1
def posP(p:List Pr)(k:Int):Nat:=(p.takeWhile fun x=>decide (x.1<k)).length
def isP(p:List Pr)(k:Int):Bool:=match p[posP p k]? with
 | some x=>x.1 == k
 | none=>false
structure Inv(P:List (List Pr)):Prop where
 ne:∀p∈P,p≠[]
 sorted:(P.flatten.map (·.1)).Pairwise (· < ·)
 rng:∀x∈P.flatten,0<=x.1/\x.1<=999
 few:∀p∈P,p.length<=8
def PairE(w:World)(b o i:Nat)(x:Pr):Prop:=CellsAt w b (o+i*2) [.int .i64 x.1,.int .i64 x.2]
def SlE(w:World)(b o i:Nat)(s:Sl):Prop:=w.cell? ⟨b,o+i,none⟩=some (slV s)
theorem F67_eq(t0:Sl)(t1:Nat×Array Value)(w:World)(R:RV):F67 t0 t1 w R=IndexF Tryz.prog SlE slV t0 t1 w R:=rfl
theorem F68_eq(t0:Sl)(t1:Int)(t2:Nat×Array Value)(w:World)(R:RV):F68 t0 t1 t2 w R=BinF Tryz.prog PairE (fun x=>.agg #[.int .i64 x.1,.int .i64 x.2]) (.int .i64 t1) t0 t2 w R:=rfl
def lt1(k:Int):Pr->Bool:=fun x=>decide (x.1<k)
def le1(k:Int):Pr->Bool:=fun x=>decide (x.1<=k)
abbrev Srt(l:List Pr):Prop:=(l.map (·.1)).Pairwise (· < ·)
def insS(l:List Pr)(k v:Int):List Pr:=l.takeWhile (lt1 k)++(k,v)::l.dropWhile (le1 k)
def delS(l:List Pr)(k:Int):List Pr:=l.filter fun x=>x.1 != k
def putP(P:List (List Pr))(k v:Int):List (List Pr):=
 match P with
 | []=>[[(k,v)]]
 | _=>let q:=insS (P.getD (atP P k) []) k v
  if 8<q.length then P.take (atP P k)++[q.take 4,q.drop 4]++P.drop (atP P k+1) else P.take (atP P k)++q::P.drop (atP P k+1)
def canJ(P:List (List Pr))(at':Nat):Bool:=decide (at'+1<P.length)&&decide ((P.getD at' []).length+(P.getD (at'+1) []).length<=4)
def joinP(P:List (List Pr))(at':Nat):List (List Pr):=P.take at'++(P.getD at' []++P.getD (at'+1) [])::P.drop (at'+2)
def hasP(P:List (List Pr))(k:Int):Bool:=isP (P.getD (atP P k) []) k
def delP(P:List (List Pr))(k:Int):List (List Pr):=
 let a:=atP P k
 let q:=delS (P.getD a []) k
 if q=[] then P.take a++P.drop (a+1)
 else let Q:=P.take a++q::P.drop (a+1)
  if canJ Q a then joinP Q a else if 0<a/\canJ Q (a-1) then joinP Q (a-1) else Q
theorem srt_append{a b:List Pr}:Srt (a++b)↔Srt a/\Srt b/\∀x∈a,∀y∈b,x.1<y.1:=by
 simp only[Srt,List.map_append,List.pairwise_append,List.mem_map]
 constructor
 ·rintro⟨h1,h2,h3⟩
  exact⟨h1,h2,fun x hx y hy=>h3 _ ⟨x,hx,rfl⟩ _ ⟨y,hy,rfl⟩⟩
 ·rintro⟨h1,h2,h3⟩
  refine⟨h1,h2,?_⟩
  rintro _ ⟨x,hx,rfl⟩ _ ⟨y,hy,rfl⟩
  exact h3 x hx y hy
theorem srt_cons{x:Pr}{b:List Pr}:Srt (x::b)↔(∀y∈b,x.1<y.1)/\Srt b:=by
 simp only[Srt,List.map_cons,List.pairwise_cons,List.mem_map]
 constructor
 ·rintro⟨h1,h2⟩;exact⟨fun y hy=>h1 _ ⟨y,hy,rfl⟩,h2⟩
 ·rintro⟨h1,h2⟩;refine⟨?_,h2⟩;rintro _ ⟨y,hy,rfl⟩;exact h1 y hy
theorem insS_mid{a p b:List Pr}{k v:Int}(ha:∀x∈a,x.1<k)(hb:∀x∈b,k<x.1):insS (a++p++b) k v=a++insS p k v++b:=by
 have h1:∀x∈a,lt1 k x=true:=fun x hx=>decide_eq_true (ha x hx)
 have h2:∀x∈b,lt1 k x=false:=fun x hx=>decide_eq_false (by have:=hb x hx;omega)
 have h3:∀x∈a,le1 k x=true:=fun x hx=>decide_eq_true (by have:=ha x hx;omega)
 have h4:∀x∈b,le1 k x=false:=fun x hx=>decide_eq_false (by have:=hb x hx;omega)
 unfold insS
 rw[takeWhile_app2 h2,takeWhile_app h1,dropWhile_app2 h4,dropWhile_app h3]
 simp
theorem delS_mid{a p b:List Pr}{k:Int}(ha:∀x∈a,x.1<k)(hb:∀x∈b,k<x.1):delS (a++p++b) k=a++delS p k++b:=by
 unfold delS
 have h1:a.filter (fun x=>x.1 != k)=a:=List.filter_eq_self.2 fun x hx=>by have:=ha x hx;simp;omega
 have h2:b.filter (fun x=>x.1 != k)=b:=List.filter_eq_self.2 fun x hx=>by have:=hb x hx;simp;omega
 rw[List.filter_append,List.filter_append,h1,h2]
theorem mem_insS{l:List Pr}{k v:Int}{x:Pr}(h:x∈insS l k v):x=(k,v)\/x∈l:=by
 unfold insS at h
 rcases List.mem_append.1 h with h|h
 ·exact .inr ((List.takeWhile_sublist _).mem h)
 ·rcases List.mem_cons.1 h with h|h
  ·exact .inl h
  ·exact .inr ((List.dropWhile_sublist _).mem h)
theorem srt_drop_le{k:Int}:∀ {l:List Pr},Srt l->∀x∈l.dropWhile (le1 k),k<x.1
 | [],_,x,h=>by cases h
 | y::l,hs,x,h=>by
  obtain⟨h1,h2⟩:=srt_cons.1 hs
  cases hy:le1 k y with
  | true=>rw[List.dropWhile_cons_of_pos hy] at h;exact srt_drop_le h2 x h
  | false=>
   rw[List.dropWhile_cons_of_neg (by simp[hy])] at h
   have hy':¬y.1<=k:=of_decide_eq_false hy
   rcases List.mem_cons.1 h with rfl|h
   ·omega
   ·have:=h1 x h;omega
theorem srt_drop_lt{k:Int}:∀ {l:List Pr},Srt l->∀x∈l.dropWhile (lt1 k),k<=x.1
 | [],_,x,h=>by cases h
 | y::l,hs,x,h=>by
  obtain⟨h1,h2⟩:=srt_cons.1 hs
  cases hy:lt1 k y with
  | true=>rw[List.dropWhile_cons_of_pos hy] at h;exact srt_drop_lt h2 x h
  | false=>
   rw[List.dropWhile_cons_of_neg (by simp[hy])] at h
   have hy':¬y.1<k:=of_decide_eq_false hy
   rcases List.mem_cons.1 h with rfl|h
   ·omega
   ·have:=h1 x h;omega
theorem tw_lt{k:Int}{l:List Pr}{x:Pr}(h:x∈l.takeWhile (lt1 k)):x.1<k:=by
 have:lt1 k x=true:=takeWhile_mem h
 exact of_decide_eq_true this
theorem srt_insS{l:List Pr}{k v:Int}(h:Srt l):Srt (insS l k v):=by
 unfold insS
 have hA:Srt (l.takeWhile (lt1 k)):=List.Pairwise.sublist ((List.takeWhile_sublist _).map _) h
 have hB:Srt (l.dropWhile (le1 k)):=List.Pairwise.sublist ((List.dropWhile_sublist _).map _) h
 have ha:∀x∈l.takeWhile (lt1 k),x.1<k:=fun x hx=>tw_lt hx
 have hb:=srt_drop_le (k:=k) h
 refine srt_append.2 ⟨hA,srt_cons.2 ⟨fun y hy=>hb y hy,hB⟩,fun x hx y hy=>?_⟩
 have h1:=ha x hx
 rcases List.mem_cons.1 hy with rfl|hy
 ·exact h1
 ·have:=hb y hy;omega
theorem srt_delS{l:List Pr}{k:Int}(h:Srt l):Srt (delS l k):=List.Pairwise.sublist (List.filter_sublist.map _) h
theorem insS_ne(l:List Pr)(k v:Int):insS l k v≠[]:=by unfold insS;simp
theorem drop_lt_le{k:Int}{l:List Pr}(h:Srt l):l.dropWhile (lt1 k)=(match l[posP l k]? with|some x=>if x.1=k then [x] else []|none=>[])++l.dropWhile (le1 k):=by
 rw[show posP l k=(l.takeWhile (lt1 k)).length from rfl]
 induction l with
 | nil=>rfl
 | cons y l ih=>
  obtain⟨h1,h2⟩:=srt_cons.1 h
  cases hy:lt1 k y with
  | true=>
   have hy':y.1<k:=of_decide_eq_true hy
   have hy2:le1 k y=true:=decide_eq_true (by omega)
   rw[List.dropWhile_cons_of_pos hy,List.dropWhile_cons_of_pos hy2,List.takeWhile_cons_of_pos hy,List.length_cons,List.getElem?_cons_succ]
   exact ih h2
  | false=>
   have hy':¬y.1<k:=of_decide_eq_false hy
   rw[List.dropWhile_cons_of_neg (by simp[hy]),List.takeWhile_cons_of_neg (by simp[hy])]
   simp only[List.length_nil,List.getElem?_cons_zero]
   by_cases he:y.1=k
   ·have hy2:le1 k y=true:=decide_eq_true (by omega)
    rw[if_pos he,List.dropWhile_cons_of_pos hy2,dropWhile_none]
    ·rfl
    ·intro x hx;exact decide_eq_false (by have:=h1 x hx;omega)
   ·rw[if_neg he,dropWhile_none]
    ·rfl
    ·intro x hx
     rcases List.mem_cons.1 hx with rfl|hx
     ·exact decide_eq_false (by omega)
     ·exact decide_eq_false (by have:=h1 x hx;omega)
theorem posP_le(p:List Pr)(k:Int):posP p k<=p.length:=(List.takeWhile_sublist _).length_le
theorem take_posP(p:List Pr)(k:Int):p.take (posP p k)=p.takeWhile (lt1 k):=by
 unfold posP
 exact(List.prefix_iff_eq_take.1 (List.takeWhile_prefix _)).symm
theorem drop_posP(p:List Pr)(k:Int):p.drop (posP p k)=p.dropWhile (lt1 k):=by
 have h1:=List.take_append_drop (posP p k) p
 have h2:=List.takeWhile_append_dropWhile (p:=lt1 k) (l:=p)
 rw[take_posP] at h1
 exact List.append_cancel_left (h1.trans h2.symm)
theorem isP_iff{p:List Pr}{k:Int}:isP p k=true↔∃v,p[posP p k]? =some (k,v):=by
 unfold isP
 split
 ·rename_i x hx
  simp only[beq_iff_eq,Option.some.injEq]
  constructor
  ·rintro rfl;exact⟨x.2,hx⟩
  ·rintro⟨v,h⟩
   rw[hx] at h;cases h;rfl
 ·rename_i h;simp[h]
theorem insS_is{p:List Pr}{k v:Int}(hs:Srt p)(h:isP p k=true):insS p k v=p.set (posP p k) (k,v):=by
 obtain⟨u,hu⟩:=isP_iff.1 h
 have hlt:=(List.getElem?_eq_some_iff.1 hu).1
 have:=drop_lt_le (k:=k) hs
 rw[hu] at this
 simp only[if_true] at this
 rw[List.set_eq_take_append_cons_drop,if_pos hlt,take_posP]
 unfold insS
 congr 2
 have h2:=drop_posP p k
 rw[this] at h2
 have h3:=congrArg (List.drop 1) h2
 rw[List.drop_drop] at h3
 simpa using h3.symm
theorem insS_not{p:List Pr}{k v:Int}(hs:Srt p)(h:isP p k=false):insS p k v=p.take (posP p k)++(k,v)::p.drop (posP p k):=by
 have:=drop_lt_le (k:=k) hs
 have e:(match p[posP p k]? with|some x=>if x.1=k then [x] else []|none=>[])=([]:List Pr):=by
  unfold isP at h
  split at h
  ·rename_i x hx;first|(rw[hx];simp only;rw[if_neg (by simpa using h)])|rw[if_neg (by simpa using h)]
  ·rename_i hx;first|rw[hx]|rfl
 rw[e,List.nil_append] at this
 rw[take_posP,drop_posP,this];rfl
theorem delS_is{p:List Pr}{k:Int}(hs:Srt p)(h:isP p k=true):delS p k=p.take (posP p k)++p.drop (posP p k+1):=by
 obtain⟨u,hu⟩:=isP_iff.1 h
 have:=drop_lt_le (k:=k) hs
 rw[hu] at this
 simp only[if_true] at this
 have h2:=drop_posP p k
 rw[this] at h2
 have h3:=congrArg (List.drop 1) h2
 rw[List.drop_drop] at h3
 simp only[List.singleton_append,List.drop_succ_cons,List.drop_zero] at h3
 rw[h3,take_posP]
 have h4:=List.takeWhile_append_dropWhile (p:=lt1 k) (l:=p)
 have h5:delS p k=delS (p.takeWhile (lt1 k)++[(k,u)]++p.dropWhile (le1 k)) k:=by
  congr 1;rw[List.append_assoc,<-this,h4]
 rw[h5,delS_mid (fun x hx=>tw_lt hx) (srt_drop_le hs)]
 simp[delS]
theorem delS_not{p:List Pr}{k:Int}(hs:Srt p)(h:isP p k=false):delS p k=p:=by
 unfold delS
 refine List.filter_eq_self.2 fun x hx=>?_
 simp only[bne_iff_ne,ne_eq]
 intro e
 subst e
 have hm:=List.takeWhile_append_dropWhile (p:=lt1 x.1) (l:=p)
 rw[<-hm] at hx
 rcases List.mem_append.1 hx with hx|hx
 ·have:=tw_lt hx;omega
 ·rw[drop_lt_le hs] at hx
  rcases List.mem_append.1 hx with hx|hx
  ·split at hx
   ·rename_i y hy
    split at hx
    ·rename_i he
     unfold isP at h;rw[hy] at h;simp[he] at h
    ·cases hx
   ·cases hx
  ·have:=srt_drop_le hs x hx;omega
theorem insS_len{p:List Pr}{k v:Int}(hs:Srt p):(insS p k v).length=if isP p k then p.length else p.length+1:=by
 split
 ·rename_i h;rw[insS_is hs h];simp
 ·rename_i h
  rw[insS_not hs (by simpa using h)]
  have:=posP_le p k
  simp;omega
theorem atP_lt{P:List (List Pr)}(hne:P≠[])(k:Int):atP P k<P.length:=by
 have h0:0<P.length:=List.length_pos_iff.2 hne
 unfold atP
 split
 ·rename_i i hi
  rw[List.findIdx?_eq_some_iff_getElem] at hi
  obtain⟨h,_⟩:=hi
  omega
 ·omega
theorem flatten_split{P:List (List Pr)}{i:Nat}(h:i<P.length):P=P.take i++P.getD i []::P.drop (i+1):=by
 have:=List.take_append_drop i P
 rw[List.drop_eq_getElem_cons h] at this
 rw[List.getD_eq_getElem?_getD,List.getElem?_eq_getElem h]
 exact this.symm
theorem head_mem{p:List Pr}(h:p≠[]):∃x∈p,x.1=hd0 p:=by
 cases p with
 | nil=>exact absurd rfl h
 | cons x p=>exact⟨x,by simp,rfl⟩
theorem head_le{p:List Pr}(hs:Srt p):∀x∈p,hd0 p<=x.1:=by
 cases p with
 | nil=>intro x hx;cases hx
 | cons y p=>
  intro x hx
  rcases List.mem_cons.1 hx with rfl|hx
  ·exact Int.le_refl _
  ·exact Int.le_of_lt ((srt_cons.1 hs).1 x hx)
structure AtP(P:List (List Pr))(k:Int):Prop where
 lt:atP P k<P.length
 split:P=P.take (atP P k)++P.getD (atP P k) []::P.drop (atP P k+1)
 flat:P.flatten=(P.take (atP P k)).flatten++P.getD (atP P k) []++(P.drop (atP P k+1)).flatten
 ahead:∀x∈(P.take (atP P k)).flatten,x.1<k
 behind:∀x∈(P.drop (atP P k+1)).flatten,k<x.1
 mem:P.getD (atP P k) []∈P
 srt:Srt (P.getD (atP P k) [])
 ne:P.getD (atP P k) []≠[]
theorem atP_is{P:List (List Pr)}(hI:Inv P)(hne:P≠[])(k:Int):AtP P k:=by
 have hlt:=atP_lt hne k
 have hsp:=flatten_split hlt
 have hmem:P.getD (atP P k) []∈P:=by
  rw[List.getD_eq_getElem?_getD,List.getElem?_eq_getElem hlt];exact List.getElem_mem hlt
 have hflat:P.flatten=(P.take (atP P k)).flatten++P.getD (atP P k) []++(P.drop (atP P k+1)).flatten:=by
  conv=>lhs;rw[hsp]
  simp
 have hS:=hI.sorted
 have hS':Srt P.flatten:=hS
 rw[hflat] at hS'
 obtain⟨hS1,hS2,hS3⟩:=srt_append.1 hS'
 obtain⟨hS4,hS5,hS6⟩:=srt_append.1 hS1
 refine⟨hlt,hsp,hflat,?_,?_,hmem,hS5,hI.ne _ hmem⟩
 ·intro x hx
  have h0:atP P k≠0:=fun e=>by rw[e] at hx;simp at hx
  have hh:hd0 (P.getD (atP P k) [])<=k:=by
   have hf:¬k<hd0 (P[atP P k]):=by
    have hcase:∀j(hj:j<P.length),(match P.findIdx? (fun p=>decide (k<hd0 p)) with|some i=>i|none=>P.length)>j->¬k<hd0 P[j]:=by
     intro j hj hgt
     split at hgt
     ·rename_i i hi
      rw[List.findIdx?_eq_some_iff_getElem] at hi
      obtain⟨_,_,h3⟩:=hi
      simpa using h3 j hgt
     ·rename_i hn
      rw[List.findIdx?_eq_none_iff] at hn
      simpa using hn _ (List.getElem_mem hj)
    refine hcase _ hlt ?_
    have e:atP P k=(match P.findIdx? (fun p=>decide (k<hd0 p)) with|some i=>i|none=>P.length)-1:=rfl
    omega
   rw[List.getD_eq_getElem?_getD,List.getElem?_eq_getElem hlt]
   exact Int.not_lt.1 hf
  obtain⟨y,hy,hyh⟩:=head_mem (hI.ne _ hmem)
  have:=hS6 x hx y hy
  omega
 ·intro x hx
  obtain⟨p,hp,hxp⟩:=List.mem_flatten.1 hx
  obtain⟨j,hj,rfl⟩:=List.getElem_of_mem hp
  have hd:P.drop (atP P k+1)≠[]:=fun e=>by rw[e] at hj;cases hj
  have hl1:atP P k+1<P.length:=by
   rw[List.length_drop] at hj;omega
  have hk:k<hd0 P[atP P k+1]:=by
   have e:atP P k=(match P.findIdx? (fun p=>decide (k<hd0 p)) with|some i=>i|none=>P.length)-1:=rfl
   cases hf:P.findIdx? (fun p=>decide (k<hd0 p)) with
   | none=>rw[hf] at e;simp only at e;omega
   | some i=>
    rw[hf] at e
    simp only at e
    have hi:=hf
    rw[List.findIdx?_eq_some_iff_getElem] at hi
    obtain⟨h1,h2,h3⟩:=hi
    have h2':k<hd0 P[i]:=by simpa using h2
    by_cases h0:i=0
    ·subst h0
     have h4:hd0 P[0]<=hd0 P[atP P k+1]:=by
      have hz:atP P k=0:=by omega
      obtain⟨y,hy,hyh⟩:=head_mem (hI.ne _ (List.getElem_mem hl1))
      obtain⟨z,hz',hzh⟩:=head_mem (hI.ne _ hmem)
      have e2:hd0 P[0]=z.1:=by rw[hzh,List.getD_eq_getElem?_getD,List.getElem?_eq_getElem hlt];simp[hz]
      have hy2:y∈(P.drop (atP P k+1)).flatten:=List.mem_flatten.2 ⟨_,by rw[List.drop_eq_getElem_cons hl1];exact List.mem_cons_self ..,hy⟩
      have:=hS3 z (List.mem_append_right _ hz') y hy2
      omega
     omega
    ·have:i=atP P k+1:=by omega
     subst this
     exact h2'
  have hx2:hd0 P[atP P k+1]<=x.1:=by
   rw[List.drop_eq_getElem_cons hl1,List.flatten_cons] at hx hS2
   obtain⟨hs1,hs2,hs3⟩:=srt_append.1 hS2
   rcases List.mem_append.1 hx with hx|hx
   ·exact head_le hs1 x hx
   ·obtain⟨y,hy,hyh⟩:=head_mem (hI.ne _ (List.getElem_mem hl1))
    have:=hs3 y hy x hx
    omega
  omega
theorem AtP.has{P:List (List Pr)}{k:Int}(h:AtP P k):hasP P k=true↔∃v,(k,v)∈P.flatten:=by
 unfold hasP
 rw[isP_iff]
 constructor
 ·rintro⟨v,hv⟩
  exact⟨v,List.mem_flatten.2 ⟨_,h.mem,List.mem_of_getElem? hv⟩⟩
 ·rintro⟨v,hv⟩
  rw[h.flat] at hv
  rcases List.mem_append.1 hv with hv|hv
  ·rcases List.mem_append.1 hv with hv|hv
   ·have:=h.ahead _ hv;dsimp only at this;omega
   ·cases hp:isP (P.getD (atP P k) []) k with
    | true=>exact isP_iff.1 hp
    | false=>
     have:=delS_not h.srt hp
     rw[<-this] at hv
     simp[delS] at hv
  ·have:=h.behind _ hv;dsimp only at this;omega
theorem putP_eq{P:List (List Pr)}(hne:P≠[])(k v:Int):putP P k v=if 8<(insS (P.getD (atP P k) []) k v).length then P.take (atP P k)++[(insS (P.getD (atP P k) []) k v).take 4,(insS (P.getD (atP P k) []) k v).drop 4]++P.drop (atP P k+1)
  else P.take (atP P k)++insS (P.getD (atP P k) []) k v::P.drop (atP P k+1):=by
 cases P with
 | nil=>exact absurd rfl hne
 | cons p P=>rfl
theorem putP_flat{P:List (List Pr)}(hI:Inv P)(k v:Int):(putP P k v).flatten=insS P.flatten k v:=by
 by_cases hne:P=[]
 ·subst hne;rfl
 ·have h:=atP_is hI hne k
  rw[h.flat,insS_mid h.ahead h.behind,putP_eq hne]
  split
  ·simp only[List.flatten_append,List.flatten_cons,List.flatten_nil,List.append_nil,List.take_append_drop]
  ·simp only[List.flatten_append,List.flatten_cons,List.append_assoc]
theorem putP_inv{P:List (List Pr)}(hI:Inv P){k v:Int}(hk:0<=k/\k<=999):Inv (putP P k v):=by
 have hrng:∀x∈(putP P k v).flatten,0<=x.1/\x.1<=999:=by
  intro x hx
  rw[putP_flat hI] at hx
  rcases mem_insS hx with rfl|hx
  ·exact hk
  ·exact hI.rng x hx
 have hsrt:Srt (putP P k v).flatten:=by rw[putP_flat hI];exact srt_insS hI.sorted
 by_cases hne:P=[]
 ·subst hne
  exact⟨by intro p hp;simp[putP] at hp;subst hp;simp,hsrt,hrng,by intro p hp;simp[putP] at hp;subst hp;simp⟩
 ·have h:=atP_is hI hne k
  have hl:(insS (P.getD (atP P k) []) k v).length<=9:=by
   have:=hI.few _ h.mem
   rw[insS_len h.srt];split<;>omega
  have hmem:∀p∈putP P k v,p∈P\/(p≠[]/\p.length<=8):=by
   intro p hp
   rw[putP_eq hne] at hp
   split at hp
   ·rename_i h8
    simp only[List.mem_append,List.mem_cons,List.not_mem_nil,or_false] at hp
    rcases hp with (hp|hp|hp)|hp
    ·exact .inl (List.mem_of_mem_take hp)
    ·subst hp
     exact .inr ⟨fun e=>by have:=congrArg List.length e;rw[List.length_take,List.length_nil] at this;omega,by rw[List.length_take];omega⟩
    ·subst hp
     exact .inr ⟨fun e=>by have:=congrArg List.length e;rw[List.length_drop,List.length_nil] at this;omega,by rw[List.length_drop];omega⟩
    ·exact .inl (List.mem_of_mem_drop hp)
   ·rename_i h8
    simp only[List.mem_append,List.mem_cons] at hp
    rcases hp with hp|hp|hp
    ·exact .inl (List.mem_of_mem_take hp)
    ·subst hp;exact .inr ⟨insS_ne _ _ _,by omega⟩
    ·exact .inl (List.mem_of_mem_drop hp)
  exact⟨fun p hp=>(hmem p hp).elim (hI.ne p) (·.1),hsrt,hrng,fun p hp=>(hmem p hp).elim (hI.few p) (·.2)⟩
theorem canJ_spec{P:List (List Pr)}{a:Nat}(h:canJ P a=true):a+1<P.length/\(P.getD a []).length+(P.getD (a+1) []).length<=4:=by
 unfold canJ at h
 rw[Bool.and_eq_true,decide_eq_true_eq,decide_eq_true_eq] at h
 exact h
theorem joinP_split{P:List (List Pr)}{a:Nat}(h:a+1<P.length):P=P.take a++P.getD a []::P.getD (a+1) []::P.drop (a+2):=by
 have h1:=flatten_split (P:=P) (i:=a) (by omega)
 have h2:P.drop (a+1)=P.getD (a+1) []::P.drop (a+2):=by
  rw[List.drop_eq_getElem_cons h,List.getD_eq_getElem?_getD,List.getElem?_eq_getElem h];rfl
 rw[h2] at h1
 exact h1
theorem joinP_flat{P:List (List Pr)}{a:Nat}(h:a+1<P.length):(joinP P a).flatten=P.flatten:=by
 conv=>rhs;rw[joinP_split h]
 simp[joinP]
theorem joinP_mem{P:List (List Pr)}{a:Nat}{p:List Pr}(hp:p∈joinP P a):p∈P\/p=P.getD a []++P.getD (a+1) []:=by
 unfold joinP at hp
 simp only[List.mem_append,List.mem_cons] at hp
 rcases hp with hp|hp|hp
 ·exact .inl (List.mem_of_mem_take hp)
 ·exact .inr hp
 ·exact .inl (List.mem_of_mem_drop hp)
theorem joinP_inv{P:List (List Pr)}{a:Nat}(hI:Inv P)(h:canJ P a=true):Inv (joinP P a):=by
 obtain⟨h1,h2⟩:=canJ_spec h
 have hf:=joinP_flat h1
 have hm:P.getD a []∈P:=by
  rw[List.getD_eq_getElem?_getD,List.getElem?_eq_getElem (by omega)];exact List.getElem_mem _
 refine⟨fun p hp=>?_,by rw[hf];exact hI.sorted,by rw[hf];exact hI.rng,fun p hp=>?_⟩
 ·rcases joinP_mem hp with hp|rfl
  ·exact hI.ne p hp
  ·intro e;exact hI.ne _ hm (List.append_eq_nil_iff.1 e).1
 ·rcases joinP_mem hp with hp|rfl
  ·exact hI.few p hp
  ·rw[List.length_append];omega
def cutP(P:List (List Pr))(k:Int):List (List Pr):=P.take (atP P k)++delS (P.getD (atP P k) []) k::P.drop (atP P k+1)
theorem cutP_flat{P:List (List Pr)}{k:Int}(h:AtP P k):(cutP P k).flatten=delS P.flatten k:=by
 rw[h.flat,delS_mid h.ahead h.behind]
 simp[cutP]
theorem cutP_inv{P:List (List Pr)}{k:Int}(hI:Inv P)(h:AtP P k)(hq:delS (P.getD (atP P k) []) k≠[]):Inv (cutP P k):=by
 have hf:=cutP_flat h
 have hmem:∀p∈cutP P k,p∈P\/p=delS (P.getD (atP P k) []) k:=by
  intro p hp
  unfold cutP at hp
  simp only[List.mem_append,List.mem_cons] at hp
  rcases hp with hp|hp|hp
  ·exact .inl (List.mem_of_mem_take hp)
  ·exact .inr hp
  ·exact .inl (List.mem_of_mem_drop hp)
 refine⟨fun p hp=>?_,by rw[hf];exact srt_delS hI.sorted,fun x hx=>?_,fun p hp=>?_⟩
 ·rcases hmem p hp with hp|rfl
  ·exact hI.ne p hp
  ·exact hq
 ·rw[hf] at hx
  exact hI.rng x (List.mem_filter.1 hx).1
 ·rcases hmem p hp with hp|rfl
  ·exact hI.few p hp
  ·exact Nat.le_trans (List.length_filter_le _ _) (hI.few _ h.mem)
theorem delP_is{P:List (List Pr)}{k:Int}(hI:Inv P)(h:AtP P k):(delP P k).flatten=delS P.flatten k/\Inv (delP P k):=by
 unfold delP
 dsimp only
 by_cases hq:delS (P.getD (atP P k) []) k=[]
 ·rw[if_pos hq]
  have hf:(P.take (atP P k)++P.drop (atP P k+1)).flatten=delS P.flatten k:=by
   rw[h.flat,delS_mid h.ahead h.behind,hq];simp
  have hmem:∀p∈P.take (atP P k)++P.drop (atP P k+1),p∈P:=by
   intro p hp
   rcases List.mem_append.1 hp with hp|hp
   ·exact List.mem_of_mem_take hp
   ·exact List.mem_of_mem_drop hp
  refine⟨hf,fun p hp=>hI.ne p (hmem p hp),by rw[hf];exact srt_delS hI.sorted,fun x hx=>?_,fun p hp=>hI.few p (hmem p hp)⟩
  rw[hf] at hx
  exact hI.rng x (List.mem_filter.1 hx).1
 ·rw[if_neg hq]
  have hc:=cutP_inv hI h hq
  have hf:=cutP_flat h
  show (List.flatten (if canJ (cutP P k) (atP P k)=true then joinP (cutP P k) (atP P k) else if 0<atP P k/\canJ (cutP P k) (atP P k-1)=true then joinP (cutP P k) (atP P k-1) else cutP P k))=_/\Inv (if canJ (cutP P k) (atP P k)=true then joinP (cutP P k) (atP P k) else if 0<atP P k/\canJ (cutP P k) (atP P k-1)=true then joinP (cutP P k) (atP P k-1) else cutP P k)
  by_cases h1:canJ (cutP P k) (atP P k)=true
  ·rw[if_pos h1]
   exact⟨by rw[joinP_flat (canJ_spec h1).1,hf],joinP_inv hc h1⟩
  ·rw[if_neg h1]
   by_cases h2:0<atP P k/\canJ (cutP P k) (atP P k-1)=true
   ·rw[if_pos h2]
    exact⟨by rw[joinP_flat (canJ_spec h2.2).1,hf],joinP_inv hc h2.2⟩
   ·rw[if_neg h2]
    exact⟨hf,hc⟩
theorem srt_len{l:List Pr}{lo hi:Int}(hs:Srt l)(h:∀x∈l,lo<=x.1/\x.1<=hi):(l.length:Int)<=hi-lo+1\/l=[]:=by
 induction l generalizing lo with
 | nil=>exact .inr rfl
 | cons x l ih=>
  obtain⟨h1,h2⟩:=srt_cons.1 hs
  have hx:=h x (by simp)
  refine .inl ?_
  rcases ih (lo:=x.1+1) h2 (fun y hy=>⟨by have:=h1 y hy;omega,(h y (by simp[hy])).2⟩) with h3|h3
  ·rw[List.length_cons];omega
  ·subst h3;simp;omega
theorem Inv.flen{P:List (List Pr)}(h:Inv P):P.flatten.length<=1000:=by
 rcases srt_len h.sorted (lo:=0) (hi:=999) h.rng with h1|h1
 ·omega
 ·rw[h1];simp
theorem flatten_ge:∀ {P:List (List Pr)},(∀p∈P,p≠[])->P.length<=P.flatten.length
 | [],_=>by simp
 | p::P,h=>by
  have h1:=flatten_ge (P:=P) fun q hq=>h q (by simp[hq])
  have h2:0<p.length:=List.length_pos_iff.2 (h p (by simp))
  rw[List.flatten_cons,List.length_append,List.length_cons];omega
theorem Inv.plen{P:List (List Pr)}(h:Inv P):P.length<=1000:=Nat.le_trans (flatten_ge h.ne) h.flen
theorem Inv.nil:Inv []:=⟨by simp,by simp,by simp,by simp⟩
end Go.Proofs.YtoahfpabpdjkkaaGreat.Gx
