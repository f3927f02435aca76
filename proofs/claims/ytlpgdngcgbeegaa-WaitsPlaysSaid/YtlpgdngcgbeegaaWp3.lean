/- gimmallaw19.WaitsPlays returns true for all arguments, and leaves what was there as it was. No condition beyond the statement. -/
/- Merged by pack.py: GxJ, IntA, GxLC, IntC, GxPB, PlyA, PlyB, GxLV, GxJV, GxLX, IntX, GxLF, IntF, GxLP, IntP, GxLK, IntK, GxN, GxOW, WayC, WayD, GxPA, PlyC, PlyD, WayE, GxON, IntE, PlyE, PlyF, PlyG, WaPly. -/
import Derived.Test.YtlpgdngcgbeegaaWp1
import Derived.Test.YtlpgdngcgbeegaaWp2
import Derived.Test.YtlpgdngcgbeegaaRows
import Derived.WalkKit
import Derived.ProofKit
import Derived.OpenShut
import Derived.ShutString
import Derived.Below
import Derived.Carry
namespace Go.Proofs.Ytlpgdngcgbeegaa.Gx
open Go
set_option linter.unusedSimpArgs false
set_option linter.unusedVariables false
structure IntIt(gf:Nat)(lb:Array Value)(w:World)(Fin:List Int->Prop):Prop where
 ex:∃(Nxt:List Int->Int->Prop)(Inv:World->Prop)(Good:List Int->Prop),Iter Try.prog gf lb ivA false Nxt Fin Inv/\Inv w/\(∀n W W',Inv W->Stb n W W'->Inv W')/\(∀F W W',Inv W->Ch F W W'->(∀i,F i->w.heap.size<=i)->Inv W')/\
  Good []/\(∀pre x,Good pre->Nxt pre x->Good (pre++[x]))/\∀l,Good l->l.length<=1000000
theorem oneIv(x:Int):One [iv x]:=by intro v hv;rw[List.mem_singleton.1 hv];rfl
theorem ivA_sz(x:Int):(ivA x).size=1:=rfl
theorem appendSeq_of{w:World}{gf:Nat}{lb:Array Value}{Fin:List Int->Prop}(h:IntIt gf lb w Fin):
  Cw 30 #[.slice none 0 0,.func (.func gf) #[] lb] w fun v w'=>∃t,∃xs:List Int,v=slV t/\Fin xs/\xs.length<=1000000/\OwS w' t 1 (xs.map iv)/\Ext w w'/\∀j∈blk t,w.heap.size<=j:=by
 obtain⟨Nxt,Inv,Good,it,hI0,hIs,hIc,hG0,hGs,hGl⟩:=h.ex
 refine F30_ok ⟨none,0,0⟩ (gf,lb) w _ ?_
 intro b2 w2 h2 g
 have e2:Ext w w2:=h2.ch _
 have hs2:=h2.size
 have hh2:=h2.here
 let G:List Int->World->Prop:=fun pre W=>Good pre/\Inv W/\∃t:Sl,(∃T,W.heap[b2]? =some (.cells #[slV t] T (0,0)))/\OwS W t 1 (pre.map iv)/\(∀j∈blk t,w2.heap.size+2<=j)/\Ch (fun i=>w.heap.size<=i) w W
 refine range_none tbOk mixed (gf:=gf) (lb:=lb) rfl it R30_0ok1 R30_0ok2 R30_0okp ivA_sz G (fun _ _ _=>False) ?_ (fun _ _ _ _ h=>h.elim) ?_ (fun h=>by cases h) ?_ ?_ ?_ (fun _ _ _ h=>h.elim)
 ·rintro pre W W' ⟨h1,h3,t,⟨T,h4⟩,h5,h6,h7⟩ hS
  exact⟨h1,hIs _ _ _ h3 hS,t,⟨T,hS.keep _ _ h4 rfl⟩,h5.stb hS,h6,h7.then (.ofStb hS) fun i _ hi=>by omega⟩
 ·rintro pre W ⟨_,h3,_⟩;exact h3
 ·exact⟨hG0,hIc _ _ _ hI0 e2 fun _ h=>h.elim,⟨none,0,0⟩,⟨_,h2.new⟩,.nil _ _,by simp[blk],e2.mono fun _ _ h=>h.elim⟩
 ·rintro pre x W ⟨hgd,hJ,t,⟨T,hb⟩,ho,hbl,hC⟩ hxn hW
  refine F30b0_ok b2 ⟨none,0,0⟩ (gf,lb) x _ _ _ _ _ W ?_
  refine⟨rfl,⟨rfl,rfl⟩,fun w12 hS hI0 hL=>?_⟩
  have H:=hS.keep _ _ hb rfl
  have ho12:=ho.stb hS
  have hJ12:=hIs _ _ _ hJ hS
  have hC12:Ch (fun i=>w.heap.size<=i) w w12:=hC.then (.ofStb hS) fun i _ hi=>by omega
  have hs12:=hS.size
  refine⟨t,by rw[cell_of H];rfl,by decide,fun b20 w21 h21=>?_⟩
  refine⟨[iv x],⟨rfl,cellsAt_of h21.new fun i v hv=>by simpa using hv⟩,?_⟩
  have e21:Ext w12 w21:=h21.ch _
  have htn:t.n=pre.length:=by have:=ho.len1;rw[List.length_map] at this;exact this
  have hpl:=hGl _ hgd
  have hgd2:=hGs _ _ hgd hxn
  have hpl2:=hGl _ hgd2
  rw[List.length_append,List.length_singleton] at hpl2
  refine(ho12.ext e21).append (cnt:=1) rfl rfl rfl (oneIv x) ⟨by omega,by dsimp only;omega⟩ ?_
  intro s' w24 ho' hn' hc' hb' _
  have hne:∀i,i<w2.heap.size->¬i∈blk t:=fun i hi h=>by have:=hbl i h;omega
  have H24:=hc'.at (e21.at H) (hne _ (by omega))
  refine⟨rfl,store_one H24 (by simp) rfl fun w25 h25=>?_⟩
  have hc25:Ch (fun i=>i=b2\/i∈blk t) w12 w25:=(((e21.mono fun _ _ h=>h.elim).then hc' fun i _ h=>.inr h).then h25.ch fun i _ h=>.inl h)
  have hb2':∀j∈blk s',w2.heap.size+2<=j:=fun j hj=>by
   rcases hb' j hj with h|h
   ·exact hbl j h
   ·have:=e21.size;omega
  have far:∀i,i<w2.heap.size+2->i≠b2->¬(i=b2\/i∈blk t):=fun i hi hne' h=>h.elim hne' fun h=>by have:=hbl i h;omega
  refine⟨⟨hc25.old _ (by omega) (far _ (by omega) (by omega)),hc25.old _ (by omega) (far _ (by omega) (by omega))⟩,⟨hgd2,hIc _ _ _ hJ12 hc25 (fun i hi=>hi.elim (fun e=>by omega) fun h=>by have:=hbl i h;omega),s',⟨_,h25.new⟩,?_,hb2',?_⟩,hI0.trans (Its.ch hc25 fun i hi=>hi.elim (fun e=>e ▸ notIt H) (fun h=>ho12.blkIt h))⟩
  ·have:=ho'.ch h25.ch fun j hj e=>by have:=hb2' j hj;omega
   rw[List.map_append];exact this
  ·exact hC12.then hc25 fun i hi h=>by
    rcases h with h|h
    ·omega
    ·have:=hbl _ h;omega
 ·rintro xs W hxs ⟨hgd,hJ,t,⟨T,hb⟩,ho,hbl,hC⟩ hD
  refine⟨t,by rw[cell_of hb];rfl,marks_one hD fun w' hu=>⟨t,xs,rfl,hxs,hGl _ hgd,?_,?_,fun j hj=>by have:=hbl j hj;omega⟩⟩
  ·refine ho.ch hu.ch fun j hj e=>?_
   have:=hbl j hj;omega
  ·exact⟨hC.rest.trans hu.rest,by rw[hu.size];exact hC.size,fun i hi _=>by rw[hu.old i (by omega)];exact hC.old i hi (by omega)⟩
theorem collect_of{w:World}{gf:Nat}{lb:Array Value}{Fin:List Int->Prop}(h:IntIt gf lb w Fin):
  Cw 24 #[.func (.func gf) #[] lb] w fun v w'=>∃t,∃xs:List Int,v=slV t/\Fin xs/\xs.length<=1000000/\OwS w' t 1 (xs.map iv)/\Ext w w'/\∀j∈blk t,w.heap.size<=j:=by
 refine F24_ok (gf,lb) w _ ((appendSeq_of h).use ?_)
 rintro _ w2 ⟨t,xs,rfl,h⟩
 exact⟨t,rfl,t,xs,rfl,h⟩
theorem sorted_of{w:World}{gf:Nat}{lb:Array Value}{Fin:List Int->Prop}(h:IntIt gf lb w Fin):
  Cw 16 #[.func (.func gf) #[] lb] w fun v w'=>∃t,∃xs ys:List Int,v=slV t/\Fin ys/\xs.Perm ys/\ys.length<=1000000/\xs.Pairwise (· <=·)/\OwS w' t 1 (xs.map iv)/\Ext w w'/\∀j∈blk t,w.heap.size<=j:=by
 refine F16_ok (gf,lb) w _ ((collect_of h).use ?_)
 rintro _ w2 ⟨t,ys,rfl,hf,hl,ho,e2,hb⟩
 refine⟨t,rfl,(c25 ho hl).use ?_⟩
 rintro _ w5 ⟨rfl,xs,hp,hs,ho2,hC⟩
 exact⟨(),rfl,t,xs,ys,rfl,hf,hp,hl,hs,ho2,e2.then hC fun i hi h=>by have:=hb i h;omega,hb⟩
theorem keysI_stb{n b1:Nat}{p:MO}{W W':World}(h:KeysI b1 p W)(hS:Stb n W W'):KeysI b1 p W':=by
 obtain⟨⟨T,hT⟩,h⟩:=h
 refine⟨⟨T,hS.keep _ _ hT rfl⟩,?_⟩
 match p,h with
 | none,_=>trivial
 | some (r,es,ck),h=>exact hS.keep _ _ h rfl
theorem keysI_ch{F:Nat->Prop}{b1:Nat}{p:MO}{W W':World}(h:KeysI b1 p W)(hc:Ch F W W')(h1:¬F b1)(h2:∀r es ck,p=some (r,es,ck)->¬F r):KeysI b1 p W':=by
 obtain⟨⟨T,hT⟩,h⟩:=h
 refine⟨⟨T,hc.at hT h1⟩,?_⟩
 match p,h,h2 with
 | none,_,_=>trivial
 | some (r,es,ck),h,h2=>exact hc.at h (h2 _ _ _ rfl)
theorem keysIt{g b1:Nat}(hen:Entr Try.prog g)(hF:∀l W R,KeysF Try.prog l b1 W R->Cw g #[.func (.yield l) #[] #[],.pointer (some ⟨b1,0,none⟩)] W R){w:World}{p:MO}{ks:List Int}(hI:KeysI b1 p w)(hks:KeysE p ks)(hl:ks.length<=1000000):
  IntIt g #[.pointer (some ⟨b1,0,none⟩)] w fun xs=>xs.Perm ks:=by
 have hb1:b1<w.heap.size:=by obtain⟨⟨T,hT⟩,_⟩:=hI;exact heap_lt hT
 have hr1:∀r es ck,p=some (r,es,ck)->r<w.heap.size:=fun r es ck e=>by subst e;exact heap_lt hI.2
 refine⟨_,_,fun pre=>pre.Nodup/\∀x∈pre,x∈ks,keys_iter hen hF hks,hI,fun n W W'=>keysI_stb,fun F W W' h hc hF=>keysI_ch h hc (fun h=>by have:=hF _ h;omega) (fun r es ck e h=>by have:=hF _ h;have:=hr1 _ _ _ e;omega),⟨.nil,by simp⟩,?_,?_⟩
 ·rintro pre x ⟨hnd,hsub⟩ ⟨hxk,hxp⟩
  refine⟨?_,fun a ha=>?_⟩
  ·rw[List.nodup_append];exact⟨hnd,by simp,fun a ha b hb=>by rw[List.mem_singleton.1 hb];exact fun e=>hxp (e ▸ ha)⟩
  ·rcases List.mem_append.1 ha with h|h
   ·exact hsub a h
   ·rw[List.mem_singleton.1 h];exact hxk
 ·rintro l ⟨hnd,hsub⟩
  exact Nat.le_trans (nodup_len hnd hsub) hl
abbrev ivL(x:Int):List Value:=[iv x]
theorem ivL_len(x:Int):(ivL x).length=1:=rfl
theorem ivL_one(x:Int):One (ivL x):=oneIv x
theorem ivL_flat(l:List Int):l.flatMap ivL=l.map iv:=flat_map1 iv l
theorem owsI{w:World}{t:Sl}{l:List Int}(h:OwS w t 1 (l.map iv)):t.n=l.length:=by have:=h.len1;rw[List.length_map] at this;exact this
theorem rdI{w:World}{t:Sl}{l:List Int}(h:Rd w t 1 (l.map iv)):t.n=l.length:=by have:=h.len1;rw[List.length_map] at this;exact this
theorem owsI_get{w:World}{t:Sl}{l:List Int}(h:OwS w t 1 (l.map iv)){i:Nat}{x:Int}(hx:l[i]? =some x):∃a,t.p=some ⟨a,0,none⟩/\w.cell? ⟨a,0+i,none⟩=some (iv x):=by
 obtain⟨a,ha,hc⟩:=h.elem1 (i:=i) (v:=iv x) (by rw[List.getElem?_map,hx];rfl)
 exact⟨a,ha,by rw[Nat.zero_add];exact hc⟩
theorem rdI_get{w:World}{t:Sl}{l:List Int}(h:Rd w t 1 (l.map iv)){i:Nat}{x:Int}(hx:l[i]? =some x):∃a o,t.p=some ⟨a,o,none⟩/\w.cell? ⟨a,o+i,none⟩=some (iv x):=
 h.elem1 (i:=i) (v:=iv x) (by rw[List.getElem?_map,hx];rfl)
theorem setI{l:List Int}{i:Nat}{x:Int}(hi:i<l.length):(l.map iv).take i++[iv x]++(l.map iv).drop (i+1)=(l.set i x).map iv:=by
 rw[List.map_set,List.set_eq_take_append_cons_drop,if_pos (by rw[List.length_map];exact hi)];simp
theorem nodup_le{α:Type}[DecidableEq α]:∀ {a b:List α},a.Nodup->(∀x∈a,x∈b)->a.length<=b.length
 | [],_,_,_=>Nat.zero_le _
 | x::a,b,hn,h=>by
  obtain⟨h1,h2⟩:=List.nodup_cons.1 hn
  have hx:=h x (by simp)
  have:=nodup_le (a:=a) (b:=b.erase x) h2 fun y hy=>by
   have hne:y≠x:=fun e=>h1 (by rw[<-e];exact hy)
   exact(List.mem_erase_of_ne hne).2 (h y (by simp[hy]))
  rw[List.length_erase_of_mem hx] at this
  have:=List.length_pos_of_mem hx
  simp only[List.length_cons];omega
set_option maxRecDepth 100000
def F12(t0:Sl)(w:World)(R:RV):Prop:=IfB t0.1.isNone (R (Value.slice none 0 0) w) (0*1<=16777216/\AllocP w (Obj.cells #[] 3) fun b1 w2=>∃(l3:List Value),ReadC w2 t0.1 (t0.2*1) l3/\AppendP tt3 3 w2 (some ⟨b1,0,none⟩) 0 0 t0.2 l3 fun s4 w5=>R (Qy s4) w5)
theorem F12_ok(t0:Sl)(w:World)(R:RV)(h:F12 t0 w R):Cw 12 #[Qy t0] w R:=
 ckF Try.func12 .nil h (by kernel_rfl) (by kernel_rfl)
theorem c12{w:World}{t:Sl}{xs:List Int}(h:Rd w t 1 (xs.map iv))(hl:xs.length<=1000000):Cw 12 #[slV t] w fun v w'=>∃t',v=slV t'/\OwS w' t' 1 (xs.map iv)/\Ext w w'/\∀i∈blk t',w.heap.size<=i:=by
 have hn:=rdI h
 refine F12_ok t w _ ?_
 have e:∀R,F12 t w R=CloneF tt3 3 1 t w R:=fun _=>rfl
 rw[e]
 refine CloneF_of h rfl rfl (fun v hv=>by obtain⟨x,_,rfl⟩:=List.mem_map.1 hv;rfl) ⟨by omega,?_⟩ (fun s' w' h1 h2 h3 h4=>⟨s',rfl,h1,h3,h4⟩) fun hp=>?_
 ·show 2*t.n*8<=_
  omega
 ·have h2:=h.2
  rw[hp] at h2
  have:xs.map iv=[]:=h2
  rw[hn,List.map_eq_nil_iff.1 this];rfl
def F14j3(b1:Nat)(n8:Int)(y12:Nat->Int->World->Prop)(b14:Nat)(n15:Int)(y19:Nat->Int->World->Prop)(b21:Nat)(n22:Int)(w23:World):Prop:=IfB (decide (n22<12)) ((0<=n15/\n15<((12:Nat):Int))/\(0<=n8/\n8<((12:Nat):Int))/\Qb w23 b1 (0+n15.toNat*12+n8.toNat) fun t26=>IfB t26 ((0<=n8/\n8<((12:Nat):Int))/\(0<=n22/\n22<((12:Nat):Int))/\Qb w23 b1 (0+n8.toNat*12+n22.toNat) fun t27=>IfB t27 ((0<=n15/\n15<((12:Nat):Int))/\(0<=n22/\n22<((12:Nat):Int))/\#[Value.bool true].size=1/\StoreP w23 b1 (0+n15.toNat*12+n22.toNat) [Value.bool true] fun w28=>Qn y19 b21 (IntKind.i64.wrap (n22+1)) w28) (Qn y19 b21 (IntKind.i64.wrap (n22+1)) w23)) (Qn y19 b21 (IntKind.i64.wrap (n22+1)) w23)) (Qn y12 b14 (IntKind.i64.wrap (n15+1)) w23)
def F14j1(R:RV)(b1:Nat)(b3:Nat)(y5:Nat->Int->World->Prop)(b7:Nat)(n8:Int)(w9:World):Prop:=IfB (decide (n8<12)) (Ql (α:=Int) 0 w9 fun y12 b14 n15 w16=>IfB (decide (n15<12)) (Ql (α:=Int) 0 w16 fun y19 b21 n22 w23=>(F14j3 b1 n8 y12 b14 n15 y19 b21 n22 w23)) (Qn y5 b7 (IntKind.i64.wrap (n8+1)) w16)) (∃(l34:List Value),CellsN w9 b1 0 144 l34/\(Array.mk (l34 )).size=144/\StoreP w9 b3 0 l34 fun w37=>∃(l38:List Value),CellsN w37 b3 0 144 l38/\R (Value.agg { toList:=l38 }) w37)
theorem F14_ok(t0:List Value)(w:World)(R:RV)(h:AllocP w (Obj.cells { toList:=t0 } 29) fun b1 w2=>AllocP w2 (Obj.cells (Array.replicate 144 (Value.bool false)) 29) fun b3 w4=>Ql (α:=Int) 0 w4 fun y5 b7 n8 w9=>(F14j1 R b1 b3 y5 b7 n8 w9)):Cw 14 #[Value.agg { toList:=t0 }] w R:=
 ckF Try.func14 (nd (.node (nd (.loop [(3,oi)] (rg [3,33]) (nd (.node (nd (.loop [(4,oi)] (rg [4,5,10,33]) (nd (.node (nd (.loop [(5,oi)] (rg [5,5,14,33]) .nil)) .nil)))) .nil)))) .nil)) h (by kernel_rfl) (by kernel_rfl)
def F6j1(t1:Int)(R:RV)(b1:Nat)(b3:Nat)(y6:Nat->Int->World->Prop)(b8:Nat)(n9:Int)(w10:World):Prop:=IfB (decide (n9<12)) ((0<=n9/\n9<((12:Nat):Int))/\(0<=t1/\t1<((12:Nat):Int))/\#[Value.bool false].size=1/\StoreP w10 b1 (0+n9.toNat*12+t1.toNat) [Value.bool false] fun w13=>Qn y6 b8 (IntKind.i64.wrap (n9+1)) w13) (∃(l15:List Value),CellsN w10 b1 0 144 l15/\(Array.mk (l15 )).size=144/\StoreP w10 b3 0 l15 fun w18=>∃(l19:List Value),CellsN w18 b3 0 144 l19/\R (Value.agg { toList:=l19 }) w18)
theorem F6_ok(t0:List Value)(t1:Int)(w:World)(R:RV)(h:AllocP w (Obj.cells { toList:=t0 } 29) fun b1 w2=>AllocP w2 (Obj.cells (Array.replicate 144 (Value.bool false)) 29) fun b3 w4=>(0<=t1/\t1<((12:Nat):Int))/\#[Value.bool false,Value.bool false,Value.bool false,Value.bool false,Value.bool false,Value.bool false,Value.bool false,Value.bool false,Value.bool false,Value.bool false,Value.bool false,Value.bool false].size=12/\StoreP w4 b1 (0+t1.toNat*12) [Value.bool false,Value.bool false,Value.bool false,Value.bool false,Value.bool false,Value.bool false,Value.bool false,Value.bool false,Value.bool false,Value.bool false,Value.bool false,Value.bool false] fun w5=>Ql (α:=Int) 0 w5 fun y6 b8 n9 w10=>(F6j1 t1 R b1 b3 y6 b8 n9 w10)):Cw 6 #[Value.agg { toList:=t0 },Qz t1] w R:=
 ckF Try.func6 (nd (nd (.node (nd (.loop [(5,oi)] (rg [5,5,9,16]) .nil)) .nil))) h (by kernel_rfl) (by kernel_rfl)
def F9j2(t0:Option Addr)(R:RV)(b1:Nat)(b9:Nat)(y12:Nat->Sl×Int->World->Prop)(b14:Nat)(x15:Sl×Int)(y19:Nat->Sl×Sl×Int->World->Prop)(b21:Nat)(x22:Sl×Sl×Int)(w23:World):Prop:=IfB (decide (x22.snd.snd<12)) ((0<=x15.2/\x15.2<((12:Nat):Int))/\(0<=x22.snd.2/\x22.snd.2<((12:Nat):Int))/\Qb w23 b1 (0+x15.2.toNat*12+Int.toNat x22.snd.2) fun t26=>IfB t26 (1*1<=16777216/\AllocP w23 (Obj.cells #[Qz x22.snd.2] 3) fun b27 w28=>∃(l29:List Value),ReadC w28 (some ⟨b27,0,none⟩) (1*1) l29/\AppendP tt3 3 w28 x22.fst.1 x22.fst.2 x22.fst.3 1 l29 fun s30 w31=>(0<=x15.2/\x15.2<((12:Nat):Int))/\(0<=x22.snd.2/\x22.snd.2<((12:Nat):Int))/\Qb w31 b9 (0+x15.2.toNat*12+Int.toNat x22.snd.2) fun t32=>IfB t32 (1*1<=16777216/\AllocP w31 (Obj.cells #[Qz x22.snd.2] 3) fun b33 w34=>∃(l35:List Value),ReadC w34 (some ⟨b33,0,none⟩) (1*1) l35/\AppendP tt3 3 w34 x22.snd.fst.1 x22.snd.fst.2 x22.snd.fst.3 1 l35 fun s36 w37=>Qn y19 b21 ({ p:=s30.1,n:=s30.2,c:=s30.3 },{ p:=s36.1,n:=s36.2,c:=s36.3 },IntKind.i64.wrap (x22.snd.2+1)) w37) (Qn y19 b21 ({ p:=s30.1,n:=s30.2,c:=s30.3 },{ p:=x22.snd.fst.1,n:=x22.snd.fst.2,c:=x22.snd.fst.3 },IntKind.i64.wrap (x22.snd.2+1)) w31)) ((0<=x15.2/\x15.2<((12:Nat):Int))/\(0<=x22.snd.2/\x22.snd.2<((12:Nat):Int))/\Qb w23 b9 (0+x15.2.toNat*12+Int.toNat x22.snd.2) fun t40=>IfB t40 (1*1<=16777216/\AllocP w23 (Obj.cells #[Qz x22.snd.2] 3) fun b41 w42=>∃(l43:List Value),ReadC w42 (some ⟨b41,0,none⟩) (1*1) l43/\AppendP tt3 3 w42 x22.snd.fst.1 x22.snd.fst.2 x22.snd.fst.3 1 l43 fun s44 w45=>Qn y19 b21 ({ p:=x22.fst.1,n:=x22.fst.2,c:=x22.fst.3 },{ p:=s44.1,n:=s44.2,c:=s44.3 },IntKind.i64.wrap (x22.snd.2+1)) w45) (Qn y19 b21 ({ p:=x22.fst.1,n:=x22.fst.2,c:=x22.fst.3 },{ p:=x22.snd.fst.1,n:=x22.snd.fst.2,c:=x22.snd.fst.3 },IntKind.i64.wrap (x22.snd.2+1)) w23))) (IfB (decide (0<(x22.fst.n:Int))) (1*1<=16777216/\AllocP w23 (Obj.cells #[Qz x15.2] 3) fun b48 w49=>∃(l50:List Value),ReadC w49 (some ⟨b48,0,none⟩) (1*1) l50/\AppendP tt3 3 w49 x15.fst.1 x15.fst.2 x15.fst.3 1 l50 fun s51 w52=>Qu' 10 #[Value.pointer t0,Qz x15.2] w52 fun s55 w54=>Qv' 21 #[Qy s55,Qy x22.fst] w54 fun t58 w57=>IfB (!t58) (R (Value.bool false) w57) (Qu' 20 #[Value.pointer t0,Qz x15.2] w57 fun s61 w60=>Qv' 21 #[Qy s61,Qy x22.snd.fst] w60 fun t64 w63=>IfB (!t64) (R (Value.bool false) w63) (Qn y12 b14 ({ p:=s51.1,n:=s51.2,c:=s51.3 },IntKind.i64.wrap (x15.2+1)) w63))) (Qu' 10 #[Value.pointer t0,Qz x15.2] w23 fun s68 w67=>Qv' 21 #[Qy s68,Qy x22.fst] w67 fun t71 w70=>IfB (!t71) (R (Value.bool false) w70) (Qu' 20 #[Value.pointer t0,Qz x15.2] w70 fun s74 w73=>Qv' 21 #[Qy s74,Qy x22.snd.fst] w73 fun t77 w76=>IfB (!t77) (R (Value.bool false) w76) (Qn y12 b14 ({ p:=x15.fst.1,n:=x15.fst.2,c:=x15.fst.3 },IntKind.i64.wrap (x15.2+1)) w76))))
def F9j1(t0:Option Addr)(R:RV)(b1:Nat)(b9:Nat)(y12:Nat->Sl×Int->World->Prop)(b14:Nat)(x15:Sl×Int)(w16:World):Prop:=IfB (decide (x15.snd<12)) (Ql (α:=Sl×Sl×Int) ({ p:=none,n:=0,c:=0 },{ p:=none,n:=0,c:=0 },0) w16 fun y19 b21 x22 w23=>(F9j2 t0 R b1 b9 y12 b14 x15 y19 b21 x22 w23)) (Qu' 22 #[Value.pointer t0] w16 fun s81 w80=>Qv' 21 #[Qy s81,Qy x15.fst] w80 fun t84 w83=>R (Value.bool t84) w83)
theorem F9_ok(t0:Option Addr)(t1:List Value)(w:World)(R:RV)(h:AllocP w (Obj.cells { toList:=t1 } 29) fun b1 w2=>∃(l3:List Value),CellsN w2 b1 0 144 l3/\Cx 14 #[Value.agg { toList:=l3 }] w2 fun v6 w7=>∃(l8:List Value),v6=Value.agg { toList:=l8 }/\AllocP w7 (Obj.cells (Array.replicate 144 (Value.bool false)) 29) fun b9 w10=>(Array.mk (l8 )).size=144/\StoreP w10 b9 0 l8 fun w11=>Ql (α:=Sl×Int) ({ p:=none,n:=0,c:=0 },0) w11 fun y12 b14 x15 w16=>(F9j1 t0 R b1 b9 y12 b14 x15 w16)):Cw 9 #[Value.pointer t0,Value.agg { toList:=t1 }] w R:=
 ckF Try.func9 (nd (nd (nd (.node (nd (.loop [(6,.one (.sl)),(7,oi)] (rg [4,4,6,10,13,59]) (nd (.node (nd (.node (nd (.loop [(8,.one (.sl)),(9,.one (.sl)),(10,oi)] (rg [8,10,17,38]) .nil)) .nil)) .nil)))) .nil)))) h (by kernel_rfl) (by kernel_rfl)
def F3k1(w42:World)(b6:Nat)(n17:Int)(x41:Sl×Int)(b4:Nat)(R:RV)(b10:Nat)(y8:Nat->Int->World->Prop)(n11:Int):Prop:=∃(l83:List Value),CellsN w42 b6 0 144 l83/\Cx 7 #[Value.agg { toList:=l83 },Qz (IntKind.i64.wrap (n17.tmod 12)),Qy x41.fst] w42 fun v86 w87=>∃(x88:List Value×Bool),v86=Value.tuple #[Value.agg { toList:=x88.1 },Value.bool x88.2]/\AllocP w87 (Obj.cells (Array.replicate 144 (Value.bool false)) 29) fun b89 w90=>(Array.mk (x88.1 )).size=144/\StoreP w90 b89 0 x88.1 fun w91=>Qv' 8 #[Value.pointer (some ⟨b4,0,none⟩),Qz (IntKind.i64.wrap (n17.tmod 12)),Qy x41.fst] w91 fun t94 w93=>IfB (!t94 == x88.2) (R (Value.bool false) w93) (∃(l95:List Value),CellsN w93 b89 0 144 l95/\(Array.mk (l95 )).size=144/\StoreP w93 b6 0 l95 fun w98=>∃(l99:List Value),CellsN w98 b6 0 144 l99/\Qv' 9 #[Value.pointer (some ⟨b4,0,none⟩),Value.agg { toList:=l99 }] w98 fun t104 w103=>IfB (!t104) (R (Value.bool false) w103) (Qn y8 b10 (IntKind.i64.wrap (n11+1)) w103))
def F3j2(t0:Sl)(R:RV)(b4:Nat)(b6:Nat)(y8:Nat->Int->World->Prop)(b10:Nat)(n11:Int)(n17:Int)(y38:Nat->Sl×Int->World->Prop)(b40:Nat)(x41:Sl×Int)(w42:World):Prop:=Qx t0.1 n11 (t0.2:Int) fun b45 b46=>Qs w42 b45 (b46+n11.toNat*3+2) fun s47=>IfB (decide (x41.snd<(s47.n:Int))) (IfB (decide (x41.snd<20)) (Qx t0.1 n11 (t0.2:Int) fun b48 b49=>Qs w42 b48 (b49+n11.toNat*3+2) fun s50=>Qx s50.1 x41.2 (s50.2:Int) fun b51 b52=>∃n53:Int,w42.cell? ⟨b51,b52+x41.2.toNat,none⟩=some (Value.int IntKind.u8 n53)/\¬(12:Int)=0/\1*1<=16777216/\AllocP w42 (Obj.cells #[Qz (IntKind.i64.wrap (n53.tmod 12))] 3) fun b54 w55=>∃(l56:List Value),ReadC w55 (some ⟨b54,0,none⟩) (1*1) l56/\AppendP tt3 3 w55 x41.fst.1 x41.fst.2 x41.fst.3 1 l56 fun s57 w58=>Qn y38 b40 ({ p:=s57.1,n:=s57.2,c:=s57.3 },IntKind.i64.wrap (x41.2+1)) w58) (F3k1 w42 b6 n17 x41 b4 R b10 y8 n11)) (F3k1 w42 b6 n17 x41 b4 R b10 y8 n11)
def F3j1(t0:Sl)(R:RV)(b4:Nat)(b6:Nat)(y8:Nat->Int->World->Prop)(b10:Nat)(n11:Int)(w12:World):Prop:=IfB (decide (n11<(t0.n:Int))) (IfB (decide (n11<60)) (Qx t0.1 n11 (t0.2:Int) fun b15 b16=>∃n17:Int,w12.cell? ⟨b15,b16+n11.toNat*3+1,none⟩=some (Value.int IntKind.u8 n17)/\¬(12:Int)=0/\Qx t0.1 n11 (t0.2:Int) fun b18 b19=>∃n20:Int,w12.cell? ⟨b18,b19+n11.toNat*3+0,none⟩=some (Value.int IntKind.u8 n20)/\¬(4:Int)=0/\IfB (n20.tmod (4:Int) == 3) (Cx 5 #[Value.pointer (some ⟨b4,0,none⟩),Qz (IntKind.i64.wrap (n17.tmod 12))] w12 fun v21 w22=>∃y23:Unit,v21=Value.tuple #[]/\∃(l24:List Value),CellsN w22 b6 0 144 l24/\Cx 6 #[Value.agg { toList:=l24 },Qz (IntKind.i64.wrap (n17.tmod 12))] w22 fun v27 w28=>∃(l29:List Value),v27=Value.agg { toList:=l29 }/\(Array.mk (l29 )).size=144/\StoreP w28 b6 0 l29 fun w30=>∃(l31:List Value),CellsN w30 b6 0 144 l31/\Qv' 9 #[Value.pointer (some ⟨b4,0,none⟩),Value.agg { toList:=l31 }] w30 fun t36 w35=>IfB (!t36) (R (Value.bool false) w35) (Qn y8 b10 (IntKind.i64.wrap (n11+1)) w35)) (Ql (α:=Sl×Int) ({ p:=none,n:=0,c:=0 },0) w12 fun y38 b40 x41 w42=>(F3j2 t0 R b4 b6 y8 b10 n11 n17 y38 b40 x41 w42))) (R (Value.bool true) w12)) (R (Value.bool true) w12)
theorem F3_ok(t0:Sl)(w:World)(R:RV)(h:Cx 4 #[] w fun v1 w2=>∃t3:Bool,v1=Value.bool t3/\IfB (!t3) (R (Value.bool false) w2) (AllocP w2 (Obj.cells #[Value.map none] 26) fun b4 w5=>AllocP w5 (Obj.cells (Array.replicate 144 (Value.bool false)) 29) fun b6 w7=>Ql (α:=Int) 0 w7 fun y8 b10 n11 w12=>(F3j1 t0 R b4 b6 y8 b10 n11 w12))):Cw 3 #[Qy t0] w R:=
 ckF Try.func3 (nd (nd (nd (nd (.node (nd (.loop [(5,oi)] (rg [2,2,5,10,13,84]) (nd (.node (nd (.node (nd (nd (nd (.node (nd (.loop [(7,.one (.sl)),(8,oi)] (rg [7,8,42,68]) .nil)) .nil)))) .nil)) .nil)))) .nil))))) h (by kernel_rfl) (by kernel_rfl)
theorem storeC{w:World}{b o:Nat}{vs:List Value}{old:Array Value}{T:TypeId}{K:World->Prop}(hb:w.heap[b]? =some (.cells old T (0,0)))(h0:vs≠[])(hl:o+vs.length<=old.size)(h1:One vs)
  (hK:∀w',w'.heap[b]? =some (.cells (spliceL old.toList o vs).toArray T (0,0))->Ch (fun i=>i=b) w w'->K w'):StoreP w b o vs K:=by
 cases vs with
 | nil=>exact absurd rfl h0
 | cons v vs=>
  refine⟨old,T,hb,by simpa using hl,h1,fun w' hu=>hK w' ?_ hu.ch⟩
  rw[hu.new,setsA_eq _ _ _ (by simpa using hl)]
theorem boxAt{w w':World}{b:Nat}{cs:List Value}{T:TypeId}(h:w.heap[b]? =some (.cells cs.toArray T (0,0)))(o:Nat)(e:Ext w w'):w'.cell? ⟨b,0+o,none⟩=cs[o]? :=by
 rw[cell_of (e.at h),Nat.zero_add];simp
theorem boxAll{w w':World}{b:Nat}{cs:List Value}{T:TypeId}(h:w.heap[b]? =some (.cells cs.toArray T (0,0)))(e:Ext w w'):CellsAt w' b 0 cs:=cellsAt_of (e.at h) fun i v hv=>by rw[Nat.zero_add];simpa using hv
theorem bvs_one(V:List Bool):One (bvs V):=by
 intro v hv
 obtain⟨x,_,rfl⟩:=List.mem_map.1 hv
 rfl
def tb2(V:List Bool)(i k:Nat):Bool:=decide (k<12)&&(V[i*12+k]?).getD false
abbrev tV(V:List Bool):Value:=.agg { toList:=bvs V }
structure Tbl(w:World)(b:Nat)(V:List Bool):Prop where
 box:∃T,w.heap[b]? =some (.cells (bvs V).toArray T (0,0))
 len:V.length=144
section
variable {w:World} {b:Nat} {V:List Bool} {i k:Nat} {K:World->Prop}
theorem Tbl.ch{F:Nat->Prop}{w':World}(h:Tbl w b V)(hc:Ch F w w')(hF:¬F b):Tbl w' b V:=⟨h.box.imp fun T hT=>hc.at hT hF,h.len⟩
theorem Tbl.ext{w':World}(h:Tbl w b V)(e:Ext w w'):Tbl w' b V:=h.ch e id
theorem Tbl.lt(h:Tbl w b V):b<w.heap.size:=by obtain⟨T,hT⟩:=h.box;exact heap_lt hT
theorem Tbl.all(h:Tbl w b V):CellsN w b 0 144 (bvs V):=by
 obtain⟨T,hT⟩:=h.box
 exact CellsN.mk (by rw[List.length_map];exact h.len) (boxAll hT (Ch.refl _ _))
theorem tb2_at(hl:V.length=144)(hi:i<12)(hk:k<12):V[i*12+k]? =some (tb2 V i k):=by
 have hx:V[i*12+k]? =some V[i*12+k]:=List.getElem?_eq_getElem (by omega)
 unfold tb2
 rw[hx,decide_eq_true hk];rfl
theorem tb2_out(hl:V.length=144)(h:¬(i<12/\k<12)):tb2 V i k=false:=by
 unfold tb2
 by_cases hk:k<12
 ·rw[List.getElem?_eq_none (by omega),decide_eq_true hk];rfl
 ·rw[decide_eq_false hk];rfl
theorem tb2_lt(hl:V.length=144)(h:tb2 V i k=true):i<12/\k<12:=by
 by_cases hh:i<12/\k<12
 ·exact hh
 ·rw[tb2_out hl hh] at h;cases h
theorem Tbl.cell(h:Tbl w b V)(hi:i<12)(hk:k<12):w.cell? ⟨b,0+i*12+k,none⟩=some (.bool (tb2 V i k)):=by
 obtain⟨T,hT⟩:=h.box
 have:=boxAt (cs:=bvs V) hT (i*12+k) (Ch.refl _ _)
 rw[Nat.add_assoc,this,List.getElem?_map,tb2_at h.len hi hk];rfl
theorem tb2_set(hl:V.length=144)(hi:i<12)(hk:k<12)(v:Bool)(a c:Nat):tb2 (V.set (i*12+k) v) a c=if a=i/\c=k then v else tb2 V a c:=by
 unfold tb2
 rw[List.getElem?_set]
 by_cases h:a=i/\c=k
 ·obtain⟨rfl,rfl⟩:=h
  rw[if_pos rfl,if_pos (by omega),if_pos ⟨rfl,rfl⟩,decide_eq_true hk];rfl
 ·rw[if_neg h]
  by_cases hc:c<12
  ·rw[if_neg (by omega)]
  ·rw[decide_eq_false hc];rfl
theorem Tbl.put(h:Tbl w b V)(hi:i<12)(hk:k<12){v:Bool}(hK:∀w',Tbl w' b (V.set (i*12+k) v)->Ch (fun j=>j=b) w w'->K w'):StoreP w b (0+i*12+k) [.bool v] K:=by
 obtain⟨T,hT⟩:=h.box
 have hl:=h.len
 refine store_one hT (by rw[List.size_toArray,List.length_map];omega) rfl fun w' u=>hK w' ⟨⟨T,?_⟩,by rw[List.length_set];exact hl⟩ u.ch
 have:=u.new
 rw[List.setIfInBounds_toArray,show 0+i*12+k=i*12+k by omega] at this
 rw[show bvs (V.set (i*12+k) v)=(bvs V).set (i*12+k) (.bool v) from List.map_set ..]
 exact this
theorem Tbl.fill{old:Array Value}{T:TypeId}(hb:w.heap[b]? =some (.cells old T (0,0)))(ho:old.size=144)(hl:V.length=144)(hK:∀w',Tbl w' b V->Ch (fun j=>j=b) w w'->K w'):StoreP w b 0 (bvs V) K:=by
 have hvl:(bvs V).length=144:=by rw[List.length_map];exact hl
 refine storeC hb (fun h=>by rw[h] at hvl;simp at hvl) (by omega) (bvs_one V) fun w' h c=>hK w' ⟨⟨T,?_⟩,hl⟩ c
 rw[h]
 unfold spliceL
 rw[hvl,List.take_zero,List.nil_append,List.drop_eq_nil_of_le (by rw[Array.length_toList];omega),List.append_nil]
theorem Tbl.refill(h:Tbl w b V){U:List Bool}(hl:U.length=144)(hK:∀w',Tbl w' b U->Ch (fun j=>j=b) w w'->K w'):StoreP w b 0 (bvs U) K:=by
 obtain⟨T,hT⟩:=h.box
 exact Tbl.fill hT (by rw[List.size_toArray,List.length_map];exact h.len) hl hK
def rowF(V:List Bool)(i:Nat):List Bool:=V.take (i*12)++List.replicate 12 false++V.drop (i*12+12)
theorem rowF_len(hl:V.length=144)(hi:i<12):(rowF V i).length=144:=by
 unfold rowF
 rw[List.length_append,List.length_append,List.length_take,List.length_replicate,List.length_drop];omega
theorem tb2_rowF(hl:V.length=144)(hi:i<12)(a c:Nat):tb2 (rowF V i) a c=if a=i then false else tb2 V a c:=by
 by_cases hac:a<12/\c<12
 ·obtain⟨ha,hc⟩:=hac
  have h1:=tb2_at (rowF_len hl hi) ha hc
  unfold rowF at h1
  have ht:(V.take (i*12)).length=i*12:=by rw[List.length_take];omega
  have h2:(V.take (i*12)++List.replicate 12 false++V.drop (i*12+12))[a*12+c]? =if a=i then some false else V[a*12+c]? :=by
   rcases Nat.lt_trichotomy a i with h|h|h
   ·rw[List.append_assoc,List.getElem?_append_left (by omega),List.getElem?_take,if_pos (by omega),if_neg (by omega)]
   ·subst h
    rw[List.append_assoc,List.getElem?_append_right (by omega),List.getElem?_append_left (by rw[List.length_replicate];omega),if_pos rfl,List.getElem?_replicate,if_pos (by omega)]
   ·rw[List.getElem?_append_right (by rw[List.length_append,List.length_replicate];omega),List.length_append,List.length_replicate,ht,List.getElem?_drop,if_neg (by omega)]
    congr 1;omega
  rw[h2] at h1
  by_cases h:a=i
  ·rw[if_pos h] at h1 ⊢;exact(Option.some.inj h1).symm
  ·rw[if_neg h,tb2_at hl ha hc] at h1
   rw[if_neg h];exact(Option.some.inj h1).symm
 ·rw[tb2_out (rowF_len hl hi) hac,tb2_out hl hac];simp
theorem Tbl.row(h:Tbl w b V)(hi:i<12)(hK:∀w',Tbl w' b (rowF V i)->Ch (fun j=>j=b) w w'->K w'):StoreP w b (0+i*12) (bvs (List.replicate 12 false)) K:=by
 obtain⟨T,hT⟩:=h.box
 have hl:=h.len
 refine storeC hT (by simp) (by rw[List.size_toArray,List.length_map,List.length_map,List.length_replicate];omega) (bvs_one _) fun w' h c=>hK w' ⟨⟨T,?_⟩,rowF_len hl hi⟩ c
 rw[h]
 refine congrArg (fun l:List Value=>some (Obj.cells l.toArray T (0,0))) (show List.take (0+i*12) (bvs V)++bvs (List.replicate 12 false)++List.drop (0+i*12+(bvs (List.replicate 12 false)).length) (bvs V)=List.map Value.bool (V.take (i*12)++List.replicate 12 false++V.drop (i*12+12)) from ?_)
 rw[List.map_append,List.map_append,List.map_take,List.map_drop,List.length_map,List.length_replicate,Nat.zero_add]
theorem Tbl.new{w':World}{T:TypeId}(a:IsAlloc w (.cells (bvs V).toArray T (0,0)) b w')(hl:V.length=144):Tbl w' b V:=⟨⟨T,a.new⟩,hl⟩
abbrev zeros:List Bool:=List.replicate 144 false
theorem zeros_eq:Array.replicate 144 (Value.bool false)=(bvs zeros).toArray:=by
 show _=(List.map Value.bool (List.replicate 144 false)).toArray
 rw[List.map_replicate,List.toArray_replicate]
theorem Tbl.zero{w':World}{T:TypeId}(a:IsAlloc w (.cells (Array.replicate 144 (Value.bool false)) T (0,0)) b w'):Tbl w' b zeros:=by
 rw[zeros_eq] at a
 exact .new a (by rw[List.length_replicate])
end
structure FwT(E:Nat->Nat->Prop)(n m i k:Nat)(g:Nat->Nat->Bool):Prop where
 lo:∀a b,Fw E m a b->g a b=true
 hi:∀a b,g a b=true->TC E a b
 done:∀a b,b<n->(a<i\/(a=i/\b<k))->Fw E (m+1) a b->g a b=true
theorem FwT.next{E:Nat->Nat->Prop}{n m i k:Nat}{g g':Nat->Nat->Bool}(h:FwT E n m i k g)(hle:∀a b,g a b=true->g' a b=true)(hup:∀a b,g' a b=true->TC E a b)
  (hik:Fw E (m+1) i k->g' i k=true):FwT E n m i (k+1) g':=
 ⟨fun a b hab=>hle a b (h.lo a b hab),hup,fun a b hb hab hF=>by
  by_cases he:a=i/\b=k
  ·obtain⟨rfl,rfl⟩:=he;exact hik hF
  ·exact hle a b (h.done a b hb (by omega) hF)⟩
theorem FwT.row{E:Nat->Nat->Prop}{n m i:Nat}{g:Nat->Nat->Bool}(h:FwT E n m i n g):FwT E n m (i+1) 0 g:=
 ⟨h.lo,h.hi,fun a b hb hab hF=>h.done a b hb (by omega) hF⟩
theorem tc_lt{E:Nat->Nat->Prop}{n:Nat}(hE:∀a b,E a b->a<n/\b<n){a b:Nat}(h:TC E a b):a<n/\b<n:=by
 induction h with
 | one e=>exact hE _ _ e
 | more _ e ih=>exact⟨ih.1,(hE _ _ e).2⟩
theorem FwT.stage{E:Nat->Nat->Prop}{n m:Nat}{g:Nat->Nat->Bool}(hE:∀a b,E a b->a<n/\b<n)(h:FwT E n m n 0 g):FwT E n (m+1) 0 0 g:=
 ⟨fun a b hab=>h.done a b (tc_lt hE (Fw_tc hab)).2 (.inl (tc_lt hE (Fw_tc hab)).1) hab,h.hi,fun a b _ hab=>by omega⟩
def Ev(V:List Bool)(a c:Nat):Prop:=tb2 V a c=true
theorem c14(w:World){V:List Bool}(hV:V.length=144):
  Cw 14 #[tV V] w fun v w'=>∃U,v=tV U/\U.length=144/\(∀a c,tb2 U a c=true↔TC (Ev V) a c)/\Ext w w':=by
 have hE:∀a c,Ev V a c->a<12/\c<12:=fun a c h=>tb2_lt hV h
 refine F14_ok (bvs V) w _ fun b1 w2 a2 b3 w4 a4=>?_
 have e2:Ext w w2:=a2.ch _
 have e4:Ext w2 w4:=a4.ch _
 have p2:=a2.here;have p4:=a4.here;have z2:=a2.size;have z4:=a4.size
 have hb:∀ {n:Nat},n<12->(0:Int)<=(n:Int)/\(n:Int)<((12:Nat):Int):=fun h=>⟨by omega,by omega⟩
 have w1:∀ {n:Nat},n<12->IntKind.i64.wrap ((n:Int)+1)=((n+1:Nat):Int):=fun h=>by rw[wrap_of (by omega) (by omega)];rfl
 refine⟨fun n x W=>∃(m:Nat)(U:List Bool),m<=12/\n+m=12/\x=(m:Int)/\Tbl W b1 U/\Tbl W b3 zeros/\FwT (Ev V) 12 m 0 0 (tb2 U)/\Ext w W,
  ⟨12,0,V,Nat.zero_le _,rfl,rfl,(Tbl.new a2 hV).ext e4,.zero a4,⟨fun a c h=>h,fun a c h=>.one h,fun a c _ h=>by omega⟩,e2.trans e4⟩,?_⟩
 rintro n _ W g ⟨m,U,hm,hnm,rfl,hT,hZ,hF,eW⟩
 unfold F14j1
 refine IfB.dec (fun hlt=>?_) fun hge=>?_
 ·have hm':m<12:=by omega
  refine⟨fun q x W'=>∃(i:Nat)(U:List Bool),i<=12/\q+i=12/\x=(i:Int)/\Tbl W' b1 U/\Tbl W' b3 zeros/\FwT (Ev V) 12 m i 0 (tb2 U)/\Ext w W',⟨12,0,U,Nat.zero_le _,rfl,rfl,hT,hZ,hF,eW⟩,?_⟩
  rintro q _ W2 g2 ⟨i,U2,hi,hqi,rfl,hT2,hZ2,hF2,eW2⟩
  refine IfB.dec (fun hlt2=>?_) fun hge2=>?_
  ·have hi':i<12:=by omega
   refine⟨fun s x W'=>∃(k:Nat)(U:List Bool),k<=12/\s+k=12/\x=(k:Int)/\Tbl W' b1 U/\Tbl W' b3 zeros/\FwT (Ev V) 12 m i k (tb2 U)/\Ext w W',⟨12,0,U2,Nat.zero_le _,rfl,rfl,hT2,hZ2,hF2,eW2⟩,?_⟩
   rintro s _ W3 g3 ⟨k,U3,hk,hsk,rfl,hT3,hZ3,hF3,eW3⟩
   unfold F14j3
   refine IfB.dec (fun hlt3=>?_) fun hge3=>?_
   ·have hk':k<12:=by omega
    have hl3:=hT3.len
    have stay:(Fw (Ev V) (m+1) i k->tb2 U3 i k=true)->∃b30:Nat,b30<s/\∃(k':Nat)(U:List Bool),k'<=12/\b30+k'=12/\IntKind.i64.wrap ((k:Int)+1)=(k':Int)/\Tbl W3 b1 U/\Tbl W3 b3 zeros/\FwT (Ev V) 12 m i k' (tb2 U)/\Ext w W3:=fun h=>
     ⟨s-1,by omega,k+1,U3,hk',by omega,w1 hk',hT3,hZ3,hF3.next (fun a c h=>h) hF3.hi h,eW3⟩
    refine⟨hb hi',hb hm',tb2 U3 i m,by rw[Int.toNat_natCast,Int.toNat_natCast];exact hT3.cell hi' hm',IfB.intro (fun h1=>⟨hb hm',hb hk',tb2 U3 m k,by rw[Int.toNat_natCast,Int.toNat_natCast];exact hT3.cell hm' hk',IfB.intro (fun h2=>⟨hb hi',hb hk',rfl,?_⟩) fun h2=>⟨(by trivial),stay fun h=>?_⟩⟩) fun h1=>⟨(by trivial),stay fun h=>?_⟩⟩
    ·rw[Int.toNat_natCast,Int.toNat_natCast]
     refine hT3.put hi' hk' fun w28 hT4 hC=>⟨(by trivial),s-1,by omega,k+1,_,hk',by omega,w1 hk',hT4,hZ3.ch hC (by omega),hF3.next (fun a c h=>?_) (fun a c h=>?_) (fun _=>?_),eW3.chN hC fun j hj=>by omega⟩
     ·rw[tb2_set hl3 hi' hk',h];simp
     ·rw[tb2_set hl3 hi' hk'] at h
      by_cases hac:a=i/\c=k
      ·obtain⟨rfl,rfl⟩:=hac
       exact(hF3.hi _ _ h1).trans (hF3.hi _ _ h2)
      ·rw[if_neg hac] at h;exact hF3.hi _ _ h
     ·rw[tb2_set hl3 hi' hk',if_pos ⟨rfl,rfl⟩]
    ·rcases h with h|⟨_,h⟩
     ·exact hF3.lo _ _ h
     ·rw[hF3.lo _ _ h] at h2;cases h2
    ·rcases h with h|⟨h,_⟩
     ·exact hF3.lo _ _ h
     ·rw[hF3.lo _ _ h] at h1;cases h1
   ·have:k=12:=by omega
    subst this
    exact⟨(by trivial),q-1,by omega,i+1,U3,hi',by omega,w1 hi',hT3,hZ3,hF3.row,eW3⟩
  ·have:i=12:=by omega
   subst this
   exact⟨(by trivial),n-1,by omega,m+1,U2,hm',by omega,w1 hm',hT2,hZ2,hF2.stage hE,eW2⟩
 ·have:m=12:=by omega
  subst this
  refine⟨bvs U,hT.all,by simpa using hT.len,hZ.refill hT.len fun w37 hT5 hC=>⟨bvs U,hT5.all,U,rfl,hT.len,fun a c=>⟨hF.hi a c,fun h=>hF.lo a c ((Fw_iff fun a c h=>(hE a c h).2).2 h)⟩,eW.chN hC fun j hj=>by omega⟩⟩
def H7j1(t1:Int)(t2:Sl)(R:RV)(b1:Nat)(b3:Nat)(b8:Nat)(y12:Nat->Int->World->Prop)(b14:Nat)(n15:Int)(w16:World):Prop:=
 IfB (decide (n15<(t2.n:Int)))
 (∃b19:Nat,
 ∃b20:Nat,
 t2.1=some ⟨b19,b20,none⟩/\
 (0<=n15/\n15<(t2.2:Int))/\
 ∃n21:Int,
 w16.drew.cell? ⟨b19,b20+n15.toNat,none⟩=some (Value.int IntKind.i64 n21)/\
 (0<=t1/\t1<((12:Nat):Int))/\
 (0<=n21/\n21<((12:Nat):Int))/\
 #[Value.bool true].size=1/\
 StoreP w16.drew b8 (0+t1.toNat*12+n21.toNat) [Value.bool true] fun(w22:World)=>([]:List Nat)=[]/\∃b23:Nat,b23<b14/\y12 b23 (IntKind.i64.wrap (n15+1)) w22)
 (∃(l24:List Value),
 CellsN w16 b8 0 144 l24/\
 Cx 14 #[Value.agg { toList:=l24 }] w16 fun(v27:Value) (w28:World)=>
 ∃(l29:List Value),
 v27=Value.agg { toList:=l29 }/\
 (0<=t1/\t1<((12:Nat):Int))/\
 (0<=t1/\t1<((12:Nat):Int))/\
 match nth (takeL 12 (dropL (t1.toNat*12) l29)) t1.toNat with
 | some v30=>(match v30 with
 | Value.bool t31=>IfB t31 (∃(l32:List Value),CellsN w28 b1 0 144 l32/\(Array.mk (l32 )).size=144/\StoreP w28 b3 0 l32 fun(w35:World)=>∃(l36:List Value),CellsN w35 b3 0 144 l36/\R (Value.tuple #[Value.agg { toList:=l36 },Value.bool false]) w35) (∃(l39:List Value),CellsN w28 b8 0 144 l39/\(Array.mk (l39 )).size=144/\StoreP w28 b3 0 l39 fun(w42:World)=>∃(l43:List Value),CellsN w42 b3 0 144 l43/\R (Value.tuple #[Value.agg { toList:=l43 },Value.bool true]) w42)
 | v46=>False)
 | none=>∃v48:Value,(Array.mk (takeL 12 (dropL (t1.toNat*12) l29)))[t1.toNat]? =some v48/\match v48 with
 | Value.bool t51=>IfB t51 (∃(l52:List Value),CellsN w28 b1 0 144 l52/\(Array.mk (l52 )).size=144/\StoreP w28 b3 0 l52 fun(w55:World)=>∃(l56:List Value),CellsN w55 b3 0 144 l56/\R (Value.tuple #[Value.agg { toList:=l56 },Value.bool false]) w55) (∃(l59:List Value),CellsN w28 b8 0 144 l59/\(Array.mk (l59 )).size=144/\StoreP w28 b3 0 l59 fun(w62:World)=>∃(l63:List Value),CellsN w62 b3 0 144 l63/\R (Value.tuple #[Value.agg { toList:=l63 },Value.bool true]) w62)
 | v66=>False)
def H7(t0:List Value)(t1:Int)(t2:Sl)(w:World)(R:RV):Prop:=
 AllocP w (Obj.cells { toList:=t0 } 29) fun(b1:Nat) (w2:World)=>
 AllocP w2 (Obj.cells (Array.replicate 144 (Value.bool false)) 29) fun(b3:Nat) (w4:World)=>
 ∃(l5:List Value),
 CellsN w4 b1 0 144 l5/\
 AllocP w4 (Obj.cells (Array.replicate 144 (Value.bool false)) 29) fun(b8:Nat) (w9:World)=>
 (Array.mk (l5 )).size=144/\
 StoreP w9 b8 0 l5 fun(w10:World)=>
 (0<=t1/\t1<((12:Nat):Int))/\
 #[Value.bool false,Value.bool false,Value.bool false,Value.bool false,Value.bool false,Value.bool false,Value.bool false,Value.bool false,Value.bool false,Value.bool false,Value.bool false,
 Value.bool false].size=
 12/\
 StoreP w10 b8 (0+t1.toNat*12)
 [Value.bool false,Value.bool false,Value.bool false,Value.bool false,Value.bool false,Value.bool false,Value.bool false,Value.bool false,Value.bool false,Value.bool false,Value.bool false,
 Value.bool false]
 fun(w11:World)=>
 ∃(y12:Nat->Int->World->Prop),
 (∃b13:Nat,y12 b13 0 w11)/\
 ∀(b14:Nat)(n15:Int)(w16:World)(y17:Nat->Value),
 y12 b14 n15 w16->
 (H7j1 t1 t2 R b1 b3 b8 y12 b14 n15 w16)
theorem H7_ok(t0:List Value)(t1:Int)(t2:Sl)(w:World)(R:RV)(h:H7 t0 t1 t2 w R):Cw 7 #[Value.agg { toList:=t0 },Value.int IntKind.i64 t1,Value.slice t2.1 t2.2 t2.3] w R:=
 call_of tbOk mixed en7 Try.func7 rfl (nd (nd (nd (.node (nd (.loop [(9,oi)] (rg [9,9,14,26]) (nd (.node (.draw (sts [0,1,2,3,4,5,6] (.ac 7 [] .fin .non))) .nil)))) .nil)))) (by kernel_rfl) (Nat.le_of_ble_eq_true (by kernel_rfl)) (Eq.mp (α:=H7 t0 t1 t2 w R) (by kernel_rfl) h)
theorem tb2_nth{U:List Bool}(hU:U.length=144){i k:Nat}(hi:i<12)(hk:k<12):nth (takeL 12 (dropL (i*12) (bvs U))) k=some (.bool (tb2 U i k)):=by
 rw[nth_eq,takeL_eq,dropL_eq,List.getElem?_take,if_pos hk,List.getElem?_drop,List.getElem?_map,tb2_at hU hi hk];rfl
theorem c7(w:World){V:List Bool}(hV:V.length=144){i:Nat}(hi:i<12){t:Sl}{l:List Int}(hr:Rd w t 1 (l.map iv))(hl:∀x∈l,0<=x/\x<12)(hll:l.length<=1000):
  Cw 7 #[tV V,iv (i:Int),slV t] w fun v w'=>∃U,U.length=144/\(∀a c:Nat,tb2 U a c=true↔if a=i then (c:Int)∈l else tb2 V a c=true)/\((TC (Ev U) i i/\v=.tuple #[tV V,.bool false])\/(¬TC (Ev U) i i/\v=.tuple #[tV U,.bool true]))/\Ext w w':=by
 have htn:=rdI hr
 have hb:∀ {n:Nat},n<12->(0:Int)<=(n:Int)/\(n:Int)<((12:Nat):Int):=fun h=>⟨by omega,by omega⟩
 refine H7_ok (bvs V) (i:Int) t w _ fun b1 w2 a2 b3 w4 a4=>?_
 have e2:Ext w w2:=a2.ch _
 have e4:Ext w2 w4:=a4.ch _
 have p2:=a2.here;have p4:=a4.here;have z2:=a2.size;have z4:=a4.size
 have hT4:Tbl w4 b1 V:=(Tbl.new a2 hV).ext e4
 refine⟨bvs V,hT4.all,fun b8 w9 a9=>⟨by simpa using hV,?_⟩⟩
 have e9:Ext w4 w9:=a9.ch _
 have p9:=a9.here;have z9:=a9.size
 have hT9:=hT4.ext e9
 have hZ9:Tbl w9 b3 zeros:=(Tbl.zero a4).ext e9
 refine(Tbl.zero a9).refill hV fun w10 hU10 hC10=>⟨hb hi,rfl,?_⟩
 rw[Int.toNat_natCast]
 refine hU10.row hi fun w11 hU11 hC11=>?_
 have C11:Ch (fun j=>j=b8) w9 w11:=hC10.trans hC11
 have E9:Ext w w9:=(e2.trans e4).trans e9
 have E11:Ext w w11:=E9.chN C11 fun j hj=>by omega
 refine⟨fun m x W=>∃(k:Nat)(U:List Bool),k<=l.length/\m+k=l.length/\x=(k:Int)/\Tbl W b1 V/\Tbl W b3 zeros/\Tbl W b8 U/\(∀a c:Nat,tb2 U a c=true↔if a=i then (c:Int)∈l.take k else tb2 V a c=true)/\Ext w W,
  ⟨l.length,0,_,Nat.zero_le _,rfl,rfl,hT9.ch C11 (by omega),hZ9.ch C11 (by omega),hU11,fun a c=>?_,E11⟩,?_⟩
 ·rw[tb2_rowF hV hi]
  by_cases h:a=i
  ·rw[if_pos h,if_pos h];simp
  ·rw[if_neg h,if_neg h]
 rintro m _ W g ⟨k,U,hk,hmk,rfl,hT,hZ,hU,hin,eW⟩
 unfold H7j1
 refine IfB.dec (fun hlt=>?_) fun hge=>?_
 ·have hk':k<l.length:=by omega
  have hx:l[k]? =some l[k]:=List.getElem?_eq_getElem hk'
  have hxl:=hl _ (List.getElem_mem hk')
  have htk:=take_succ_get hx
  generalize l[k]=x at hx hxl htk
  obtain⟨n,rfl⟩:∃n:Nat,x=(n:Int):=⟨x.toNat,by omega⟩
  have hn:n<12:=by omega
  have ed:=extDrew W
  obtain⟨pb,po,hp,hc⟩:=rdI_get (hr.ext (eW.trans ed)) hx
  refine⟨pb,po,hp,⟨by omega,hlt⟩,(n:Int),by rw[Int.toNat_natCast];exact hc,hb hi,hb hn,rfl,?_⟩
  rw[Int.toNat_natCast,Int.toNat_natCast]
  refine(hU.ext ed).put hi hn fun w22 hU2 hC=>⟨(by trivial),m-1,by omega,k+1,_,hk',by omega,by rw[wrap_of (by omega) (by omega)];rfl,(hT.ext ed).ch hC (by omega),(hZ.ext ed).ch hC (by omega),hU2,fun a c=>?_,(eW.trans ed).chN hC fun j hj=>by omega⟩
  rw[tb2_set hU.len hi hn,htk]
  by_cases h:a=i
  ·subst h
   rw[if_pos rfl,List.mem_append,List.mem_singleton]
   by_cases hcn:c=n
   ·subst hcn;simp
   ·rw[if_neg (by omega),hin,if_pos rfl]
    constructor
    ·exact .inl
    ·rintro(h|h)
     ·exact h
     ·exact absurd (Int.ofNat.inj h) hcn
  ·rw[if_neg (by omega),hin,if_neg h,if_neg h]
 ·have:k=l.length:=by omega
  subst this
  rw[List.take_length] at hin
  refine⟨bvs U,hU.all,(c14 W hU.len).use ?_⟩
  rintro _ w28 ⟨U',rfl,hl',htc,e28⟩
  refine⟨bvs U',rfl,hb hi,hb hi,?_⟩
  have E28:=eW.trans e28
  rw[Int.toNat_natCast,tb2_nth hl' hi hi]
  refine IfB.intro (fun h=>?_) fun h=>?_
  ·refine⟨bvs V,(hT.ext e28).all,by simpa using hV,(hZ.ext e28).refill hV fun w35 hT5 hC=>⟨bvs V,hT5.all,U,hU.len,hin,.inl ⟨(htc i i).1 h,rfl⟩,E28.chN hC fun j hj=>by omega⟩⟩
  ·refine⟨bvs U,(hU.ext e28).all,by simpa using hU.len,(hZ.ext e28).refill hU.len fun w35 hT5 hC=>⟨bvs U,hT5.all,U,hU.len,hin,.inr ⟨fun ht=>?_,rfl⟩,E28.chN hC fun j hj=>by omega⟩⟩
   rw[(htc i i).2 ht] at h;cases h
theorem c6(w:World){V:List Bool}(hV:V.length=144){i:Nat}(hi:i<12):
  Cw 6 #[tV V,iv (i:Int)] w fun v w'=>∃U,v=tV U/\U.length=144/\(∀a c:Nat,tb2 U a c=true↔a≠i/\c≠i/\tb2 V a c=true)/\Ext w w':=by
 have hb:∀ {n:Nat},n<12->(0:Int)<=(n:Int)/\(n:Int)<((12:Nat):Int):=fun h=>⟨by omega,by omega⟩
 refine F6_ok (bvs V) (i:Int) w _ fun b1 w2 a2 b3 w4 a4=>⟨hb hi,rfl,?_⟩
 have e2:Ext w w2:=a2.ch _
 have e4:Ext w2 w4:=a4.ch _
 have p2:=a2.here;have p4:=a4.here;have z2:=a2.size;have z4:=a4.size
 rw[Int.toNat_natCast]
 refine((Tbl.new a2 hV).ext e4).row hi fun w5 hT5 hC5=>?_
 have E5:Ext w w5:=(e2.trans e4).chN hC5 fun j hj=>by omega
 refine⟨fun m x W=>∃(k:Nat)(U:List Bool),k<=12/\m+k=12/\x=(k:Int)/\Tbl W b1 U/\Tbl W b3 zeros/\(∀a c:Nat,tb2 U a c=true↔a≠i/\¬(c=i/\a<k)/\tb2 V a c=true)/\Ext w W,
  ⟨12,0,_,Nat.zero_le _,rfl,rfl,hT5,(Tbl.zero a4).ch hC5 (by omega),fun a c=>?_,E5⟩,?_⟩
 ·rw[tb2_rowF hV hi]
  by_cases h:a=i
  ·rw[if_pos h];simp[h]
  ·rw[if_neg h];simp[h]
 rintro m _ W g ⟨k,U,hk,hmk,rfl,hT,hZ,hin,eW⟩
 unfold F6j1
 refine IfB.dec (fun hlt=>?_) fun hge=>?_
 ·have hk':k<12:=by omega
  refine⟨hb hk',hb hi,rfl,?_⟩
  rw[Int.toNat_natCast,Int.toNat_natCast]
  refine hT.put hk' hi fun w13 hT3 hC=>⟨(by trivial),m-1,by omega,k+1,_,hk',by omega,by rw[wrap_of (by omega) (by omega)];rfl,hT3,hZ.ch hC (by omega),fun a c=>?_,eW.chN hC fun j hj=>by omega⟩
  rw[tb2_set hT.len hk' hi]
  by_cases h:a=k/\c=i
  ·obtain⟨rfl,rfl⟩:=h
   rw[if_pos ⟨rfl,rfl⟩];simp
  ·rw[if_neg h,hin]
   constructor
   ·rintro⟨h1,h2,h3⟩;exact⟨h1,by omega,h3⟩
   ·rintro⟨h1,h2,h3⟩;exact⟨h1,by omega,h3⟩
 ·have:k=12:=by omega
  subst this
  refine⟨bvs U,hT.all,by simpa using hT.len,hZ.refill hT.len fun w18 hT8 hC=>⟨bvs U,hT8.all,U,rfl,hT.len,fun a c=>(hin a c).trans ⟨fun⟨h1,h2,h3⟩=>⟨h1,fun h=>h2 ⟨h,(tb2_lt hV h3).1⟩,h3⟩,fun⟨h1,h2,h3⟩=>⟨h1,fun h=>h2 h.1,h3⟩⟩,eW.chN hC fun j hj=>by omega⟩⟩
theorem F17_ok(t0:Sl)(w:World)(R:RV)(h:AllocP w (Obj.cells #[Qy t0] 35) fun b1 w2=>R (Value.func (Fn.func 26) #[] #[Value.pointer (some ⟨b1,0,none⟩)]) w2):Cw 17 #[Qy t0] w R:=
 ckF Try.func17 .nil h (by kernel_rfl) (by kernel_rfl)
def F26j1(t0:Nat)(R:RV)(s1:Sl)(y2:Nat->Int->World->Prop)(b4:Nat)(n5:Int)(w6:World):Prop:=IfB (decide (n5<(s1.n:Int))) (Qx s1.1 n5 (s1.2:Int) fun b9 b10=>Qi w6 b9 (b10+n5.toNat) fun n11=>YW Try.prog t0 #[Qz n11] w6 fun(t12:Bool) (w13:World)=>IfB (!t12) (R (Value.tuple #[]) w13) (Qn y2 b4 (IntKind.i64.wrap (n5+1)) w13)) (R (Value.tuple #[]) w6)
theorem F26_ok(t0:Nat)(t1:Nat)(w:World)(R:RV)(h:∃s1:Sl,w.cell? ⟨t1,0,none⟩=some (Qy s1)/\Ql (α:=Int) 0 w fun y2 b4 n5 w6=>(F26j1 t0 R s1 y2 b4 n5 w6)):Cw 26 #[Value.func (Fn.yield t0) #[] #[],Value.pointer (some ⟨t1,0,none⟩)] w R:=
 ckF Try.func26 (nd (.loop [(7,oi)] (rg [4,4,7,15]) .nil)) h (by kernel_rfl) (by kernel_rfl)
theorem valuesIt{w:World}{b1:Nat}{s:Sl}{xs:List Int}{T:TypeId}(hb:w.heap[b1]? =some (.cells #[slV s] T (0,0)))(hr:Rd w s 1 (xs.map iv))(hlt:0<s.n->∀i∈blk s,i<w.heap.size)(hl:xs.length<=1000000):
  IntIt 26 #[.pointer (some ⟨b1,0,none⟩)] w fun ys=>ys=xs:=by
 have hb1:=heap_lt hb
 have hn:s.n=xs.length:=by have:=hr.len1;rw[List.length_map] at this;exact this
 refine⟨fun pre x=>pre++[x]<+:xs,fun W=>W.heap[b1]? =some (.cells #[slV s] T (0,0))/\Rd W s 1 (xs.map iv),fun pre=>pre<+:xs,⟨en26,?_⟩,⟨hb,hr⟩,?_,?_,List.nil_prefix,fun _ _ _ h=>h,fun l h=>Nat.le_trans h.length_le hl⟩
 ·intro l J Jx W hJ hJx hInv hsz hB hstep hJ0
  obtain⟨k1,k2⟩:=hInv _ _ hJ0
  refine F26_ok l b1 W _ ⟨s,by rw[cell_of k1];rfl,fun k n W'=>∃i:Nat,n=(i:Int)/\k+i=xs.length/\J (xs.take i) W',⟨xs.length,0,rfl,rfl,by rw[List.take_zero];exact hJ0⟩,?_⟩
  rintro k _ W' g ⟨i,rfl,hk,hj⟩
  unfold F26j1
  refine IfB.dec (fun hlt=>?_) fun hge=>?_
  ·have hi:i<xs.length:=by omega
   obtain⟨_,hr'⟩:=hInv _ _ hj
   have hx:xs[i]? =some xs[i]:=List.getElem?_eq_getElem hi
   generalize xs[i]=x at hx
   obtain⟨a,o,ha,hc⟩:=hr'.elem1 (v:=iv x) (i:=i) (by rw[List.getElem?_map,hx];rfl)
   have hpre:xs.take i++[x]<+:xs:=by rw[<-take_succ_get hx];exact List.take_prefix _ _
   refine⟨a,o,ha,⟨by omega,hlt⟩,x,by rw[Int.toNat_natCast];exact hc,(hstep (xs.take i) x W' hj hpre).mono fun t w18 ht=>?_⟩
   cases t with
   | false=>exact IfB.yes rfl (.inr ⟨_,ht⟩)
   | true=>exact IfB.no rfl ⟨rfl,k-1,by omega,i+1,wp1 (by omega),by omega,by rw[take_succ_get hx];exact ht.1⟩
  ·have:i=xs.length:=by omega
   subst this
   rw[List.take_length] at hj
   exact .inl ⟨xs,rfl,hj⟩
 ·rintro n W W' ⟨h1,h2⟩ hS
  exact⟨hS.keep _ _ h1 rfl,rd_stb h2 hS⟩
 ·rintro F W W' ⟨h1,h2⟩ hc hF
  exact⟨hc.at h1 fun h=>by have:=hF _ h;omega,h2.ch0 hc fun h0 b hb h=>by have:=hlt h0 b hb;have:=hF _ h;omega⟩
def F27j1(t0:Sl)(t1:Int)(R:RV)(y1:Nat->Int->World->Prop)(b3:Nat)(n4:Int)(w5:World):Prop:=IfB (decide (n4<(t0.n:Int))) (Qx t0.1 n4 (t0.2:Int) fun b8 b9=>Qi w5 b8 (b9+n4.toNat) fun n10=>IfB (t1 == n10) (R (Qz n4) w5) (Qn y1 b3 (IntKind.i64.wrap (n4+1)) w5)) (R (Qz (-1:Int)) w5)
theorem F27_ok(t0:Sl)(t1:Int)(w:World)(R:RV)(h:Ql (α:=Int) 0 w fun y1 b3 n4 w5=>(F27j1 t0 t1 R y1 b3 n4 w5)):Cw 27 #[Qy t0,Qz t1] w R:=
 ckF Try.func27 (nd (.node (nd (.loop [(8,oi)] (rg [4,5,8,18]) .nil)) .nil)) h (by kernel_rfl) (by kernel_rfl)
theorem F19_ok(t0:Sl)(t1:Int)(w:World)(R:RV)(h:Cx 27 #[Qy t0,Qz t1] w fun v1 w2=>∃n3:Int,v1=Qz n3/\R (Value.bool (decide (0<=n3))) w2):Cw 19 #[Qy t0,Qz t1] w R:=
 ckF Try.func19 .nil h (by kernel_rfl) (by kernel_rfl)
theorem c27{w:World}{t:Sl}{xs:List Int}(h:Rd w t 1 (xs.map iv))(hl:xs.length<=1000000)(x:Int):Cw 27 #[slV t,iv x] w fun v w'=>v=iv (idxV (xs.findIdx? fun y=>x == y))/\w=w':=by
 have hn:=rdI h
 refine F27_ok t x w _ ⟨fun k n W=>∃i:Nat,n=(i:Int)/\k+i=xs.length/\W=w/\∀j<i,∀y,xs[j]? =some y->(x == y)=false,⟨xs.length,0,rfl,rfl,rfl,fun j hj=>absurd hj (Nat.not_lt_zero _)⟩,?_⟩
 rintro k _ W g ⟨i,rfl,hk,rfl,hlow⟩
 unfold F27j1
 refine IfB.dec (fun hlt=>?_) fun hge=>?_
 ·have hi:i<xs.length:=by omega
  have hx:xs[i]? =some xs[i]:=List.getElem?_eq_getElem hi
  obtain⟨a,o,ha,hc⟩:=rdI_get h hx
  refine⟨a,o,ha,⟨by omega,hlt⟩,xs[i],by rw[Int.toNat_natCast];exact hc,IfB.intro (fun he=>⟨?_,rfl⟩) fun he=>⟨rfl,k-1,by omega,i+1,wp1 (by omega),by omega,rfl,fun j hj y hy=>?_⟩⟩
  ·have:xs.findIdx? (fun y=>x == y)=some i:=by
    rw[List.findIdx?_eq_some_iff_getElem]
    exact⟨hi,he,fun j hj=>by have:=hlow j hj _ (List.getElem?_eq_getElem (by omega));rw[this];simp⟩
   rw[this];rfl
  ·by_cases hji:j<i
   ·exact hlow j hji y hy
   ·have:j=i:=by omega
    subst this;rw[hx] at hy;cases hy;exact he
 ·have:xs.findIdx? (fun y=>x == y)=none:=by
   rw[List.findIdx?_eq_none_iff]
   intro y hy
   obtain⟨j,hj,rfl⟩:=List.getElem_of_mem hy
   exact hlow j (by omega) _ (List.getElem?_eq_getElem hj)
  rw[this];exact⟨rfl,rfl⟩
theorem idx_contains(xs:List Int)(x:Int):decide ((0:Int)<=idxV (xs.findIdx? fun y=>x == y))=decide (x∈xs):=by
 refine decide_eq_decide.2 ?_
 cases h:xs.findIdx? (fun y=>x == y) with
 | none=>
  rw[List.findIdx?_eq_none_iff] at h
  refine⟨fun h0=>absurd h0 (by simp[idxV]),fun hm=>?_⟩
  have:=h x hm
  simp at this
 | some i=>
  obtain⟨hi,he,_⟩:=List.findIdx?_eq_some_iff_getElem.1 h
  refine⟨fun _=>?_,fun _=>by simp[idxV]⟩
  have:x=xs[i]:=by simpa using he
  rw[this];exact List.getElem_mem hi
theorem c19{w:World}{t:Sl}{xs:List Int}(h:Rd w t 1 (xs.map iv))(hl:xs.length<=1000000)(x:Int):Cw 19 #[slV t,iv x] w fun v w'=>v=.bool (decide (x∈xs))/\w=w':=by
 refine F19_ok t x w _ ((c27 h hl x).use ?_)
 rintro _ _ ⟨rfl,rfl⟩
 exact⟨_,rfl,by rw[idx_contains],rfl⟩
def F23j1(t0:Sl)(t1:Nat×Array Value)(R:RV)(y1:Nat->Int->World->Prop)(b3:Nat)(n4:Int)(w5:World):Prop:=IfB (decide (n4<(t0.n:Int))) (Qx t0.1 n4 (t0.2:Int) fun b8 b9=>Qi w5 b8 (b9+n4.toNat) fun n10=>Cx t1.1 { toList:=Qz n10::t1.snd.1 } w5 fun v11 w12=>∃t13:Bool,v11=Value.bool t13/\IfB t13 (R (Qz n4) w12) (Qn y1 b3 (IntKind.i64.wrap (n4+1)) w12)) (R (Qz (-1:Int)) w5)
def F23(t0:Sl)(t1:Nat×Array Value)(w:World)(R:RV):Prop:=Ql (α:=Int) 0 w fun y1 b3 n4 w5=>(F23j1 t0 t1 R y1 b3 n4 w5)
theorem F23_ok(t0:Sl)(t1:Nat×Array Value)(w:World)(R:RV)(h:F23 t0 t1 w R):Cw 23 #[Qy t0,Value.func (Fn.func t1.1) #[] t1.2] w R:=
 ckF Try.func23 (nd (.node (nd (.loop [(8,oi)] (rg [4,5,8,18]) .nil)) .nil)) h (by kernel_rfl) (by kernel_rfl)
def F11j1(t0:Sl)(t1:Nat×Array Value)(R:RV)(y4:Nat->Int×Int->World->Prop)(b6:Nat)(x7:Int×Int)(w8:World):Prop:=IfB (decide (x7.snd<(t0.n:Int))) (Qx t0.1 x7.2 (t0.2:Int) fun b11 b12=>Qi w8 b11 (b12+x7.2.toNat) fun n13=>Cx t1.1 { toList:=Qz n13::t1.snd.1 } w8 fun v14 w15=>∃t16:Bool,v14=Value.bool t16/\IfB (!t16) (Qx t0.1 x7.1 (t0.2:Int) fun b17 b18=>#[Qz n13].size=1/\StoreP w15 b17 (b18+x7.1.toNat) [Qz n13] fun w19=>Qn y4 b6 (IntKind.i64.wrap (x7.1+1),IntKind.i64.wrap (x7.2+1)) w19) (Qn y4 b6 (x7.1,IntKind.i64.wrap (x7.2+1)) w15)) ((0<=x7.1/\x7.1<=(t0.2:Int))/\match slAddr t0.1 t0.3 x7.1.toNat 1 with|none=>(0<=x7.1/\x7.1<=(t0.3:Int))/\R (Value.slice (slAddr t0.1 t0.3 0 1) x7.1.toNat t0.3) w8|some ({ block:=b23,off:=b24,spot:=none }:Addr)=>StoreP w8 b23 b24 (zc #[Qz 0] (t0.2-x7.1.toNat)) fun w25=>(0<=x7.1/\x7.1<=(t0.3:Int))/\R (Value.slice (slAddr t0.1 t0.3 0 1) x7.1.toNat t0.3) w25|some y26=>False)
def F11(t0:Sl)(t1:Nat×Array Value)(w:World)(R:RV):Prop:=Cx 23 #[Qy t0,Value.func (Fn.func t1.1) #[] t1.2] w fun v1 w2=>∃n3:Int,v1=Qz n3/\IfB (n3 == (-1:Int)) (R (Qy t0) w2) (Ql (α:=Int×Int) (n3,IntKind.i64.wrap (n3+1)) w2 fun y4 b6 x7 w8=>(F11j1 t0 t1 R y4 b6 x7 w8))
theorem F11_ok(t0:Sl)(t1:Nat×Array Value)(w:World)(R:RV)(h:F11 t0 t1 w R):Cw 11 #[Qy t0,Value.func (Fn.func t1.1) #[] t1.2] w R:=
 ckF Try.func11 (nd (nd (nd (.node (nd (.loop [(5,oi),(6,oi)] (rg [5,7,16,35]) .nil)) .nil)))) h (by kernel_rfl) (by kernel_rfl)
theorem c23{w:World}{t:Sl}{xs:List Int}{t1:Nat×Array Value}{q:Int->Bool}(h:Rd w t 1 (xs.map iv))(hl:xs.length<=1000000)
  (hq:∀(x:Int)(W:World),x∈xs->Ext w W->∀R':RV,(∀w',Ext W w'->R' (.bool (q x)) w')->Cx t1.1 { toList:=iv x::t1.2.toList } W R'):
  Cw 23 #[slV t,.func (.func t1.1) #[] t1.2] w fun v w'=>v=iv (idxV (xs.findIdx? q))/\Ext w w':=by
 refine F23_ok t t1 w _ ?_
 have hn:=rdI h
 have e:F23 t t1 w (fun v w'=>v=iv (idxV (xs.findIdx? q))/\Ext w w')=IndexF Try.prog (fun W b o i (x:Int)=>W.cell? ⟨b,o+i,none⟩=some (iv x)) iv t t1 w (fun v w'=>v=iv (idxV (xs.findIdx? q))/\Ext w w'):=rfl
 rw[e]
 refine IndexF_of xs id q hn (by omega) (fun i x W hx e=>rdI_get (h.ext e) hx) (fun i x W hx e R' hR=>hq x W (List.mem_of_getElem? hx) e R' hR) fun w' e=>⟨rfl,e⟩
theorem c11{w:World}{t:Sl}{xs:List Int}{t1:Nat×Array Value}{q:Int->Bool}(ho:OwS w t 1 (xs.map iv))(hl:xs.length<=1000000)
  (hq:∀(x:Int)(W:World),x∈xs->Ch (fun i=>i∈blk t) w W->∀R':RV,(∀w',Ext W w'->R' (.bool (q x)) w')->Cx t1.1 { toList:=iv x::t1.2.toList } W R'):
  Cw 11 #[slV t,.func (.func t1.1) #[] t1.2] w fun v w'=>∃t',v=slV t'/\OwS w' t' 1 ((xs.filter fun x=> !q x).map iv)/\t'.p=t.p/\Ch (fun i=>i∈blk t) w w':=by
 refine F11_ok t t1 w _ ?_
 have e:∀R,F11 t t1 w R=DFF Try.prog (fun W b o i (x:Int)=>W.cell? ⟨b,o+i,none⟩=some (iv x)) iv ivL (fun i=>i) 1 #[iv 0] 23 t t1 w R:=fun R=>rfl
 rw[e]
 refine DFF_of (xs:=xs) (q:=q) (by rw[ivL_flat];exact ho) (by omega) ivL_len ivL_one rfl (by intro x hx;simp at hx;subst hx;rfl) (fun i=>(Nat.mul_one i).symm) hl (fun W b i x _ hc=>?_) (fun R' hR=>?_) (fun x W hx hC R' hR=>hq x W hx hC R' hR) fun s' w' h1 h2 _ h3=>⟨s',rfl,by rw[ivL_flat] at h1;exact h1,h2,h3⟩
 ·have:=hc 0 _ rfl
  rw[Nat.mul_one] at this
  exact this
 ·refine(c23 ho.rd hl fun x W hx e=>hq x W hx (e.mono fun _ _ h=>h.elim)).use ?_
  rintro _ w' ⟨rfl,e⟩
  exact hR w' e
def F18j2(t0:Sl)(R:RV)(n4:Int)(y14:Nat->Int×Int->World->Prop)(b16:Nat)(x17:Int×Int)(w18:World):Prop:=IfB (decide (x17.snd<(((t0.n-n4.toNat:Nat):Int):Int))) (Qx (slAddr t0.1 t0.3 n4.toNat 1) x17.2 ((t0.2-n4.toNat:Nat):Int) fun b21 b22=>Qi w18.drew b21 (b22+x17.2.toNat) fun n23=>Qx (slAddr t0.1 t0.3 n4.toNat 1) (IntKind.i64.wrap (x17.2-1)) ((t0.2-n4.toNat:Nat):Int) fun b24 b25=>Qi w18.drew b24 (b25+(IntKind.i64.wrap (x17.2-1)).toNat) fun n26=>IfB (n23 != n26) (Qx (slAddr t0.1 t0.3 n4.toNat 1) x17.2 ((t0.2-n4.toNat:Nat):Int) fun b27 b28=>Qi w18.drew b27 (b28+x17.2.toNat) fun n29=>Qx t0.1 x17.1 (t0.2:Int) fun b30 b31=>#[Qz n29].size=1/\StoreP w18.drew b30 (b31+x17.1.toNat) [Qz n29] fun w32=>Qn y14 b16 (IntKind.i64.wrap (x17.1+1),IntKind.i64.wrap (x17.2+1)) w32) (Qn y14 b16 (x17.1,IntKind.i64.wrap (x17.2+1)) w18.drew)) ((0<=x17.1/\x17.1<=(t0.2:Int))/\match slAddr t0.1 t0.3 x17.1.toNat 1 with|none=>(0<=x17.1/\x17.1<=(t0.3:Int))/\R (Value.slice (slAddr t0.1 t0.3 0 1) x17.1.toNat t0.3) w18|some ({ block:=b36,off:=b37,spot:=none }:Addr)=>StoreP w18 b36 b37 (zc #[Qz 0] (t0.2-x17.1.toNat)) fun w38=>(0<=x17.1/\x17.1<=(t0.3:Int))/\R (Value.slice (slAddr t0.1 t0.3 0 1) x17.1.toNat t0.3) w38|some y39=>False)
def F18j1(t0:Sl)(R:RV)(y1:Nat->Int->World->Prop)(b3:Nat)(n4:Int)(w5:World):Prop:=IfB (decide (n4<(t0.n:Int))) (Qx t0.1 n4 (t0.2:Int) fun b8 b9=>Qi w5.drew b8 (b9+n4.toNat) fun n10=>Qx t0.1 (IntKind.i64.wrap (n4-1)) (t0.2:Int) fun b11 b12=>Qi w5.drew b11 (b12+(IntKind.i64.wrap (n4-1)).toNat) fun n13=>IfB (n10 == n13) ((0<=n4/\n4<=(t0.2:Int))/\Ql (α:=Int×Int) (n4,1) w5.drew fun y14 b16 x17 w18=>(F18j2 t0 R n4 y14 b16 x17 w18)) (Qn y1 b3 (IntKind.i64.wrap (n4+1)) w5.drew)) (R (Qy t0) w5)
theorem F18_ok(t0:Sl)(w:World)(R:RV)(h:IfB (decide ((t0.n:Int)<2)) (R (Qy t0) w) (Ql (α:=Int) 1 w fun y1 b3 n4 w5=>(F18j1 t0 R y1 b3 n4 w5))):Cw 18 #[Qy t0] w R:=
 ckF Try.func18 (nd (nd (.node (nd (.loop [(3,oi)] (rg [2,5,10,59]) (nd (.node (.node (.draw (sts [0,1,2,3,4,5,6,7,8,9] .fin)) (.node (nd (.node (nd (.loop [(3,oi),(5,oi)] (rg [3,3,5,5,29,53]) (nd (.node (.node (.draw (sts [0,1,2,3,4,5,6,7,8,9] .fin)) .nil) .nil)))) .nil)) .nil)) .nil)))) .nil))) h (by kernel_rfl) (by kernel_rfl)
theorem c18{w:World}{t:Sl}{xs:List Int}(ho:OwS w t 1 (xs.map iv))(hl:xs.length<=1000000):Cw 18 #[slV t] w fun v w'=>∃t',v=slV t'/\OwS w' t' 1 ((compactL xs).map iv)/\t'.p=t.p/\Ch (fun i=>i∈blk t) w w':=by
 have hn:=owsI ho
 have hcap:=ho.cap
 refine F18_ok t w _ (IfB.dec (fun h2=>?_) fun h2=>?_)
 ·have:compactL xs=xs:=by
   match xs,hn with
   | [],_=>rfl
   | [x],_=>rfl
   | x::y::l,hn=>simp at hn;omega
  exact⟨t,rfl,by rw[this];exact ho,rfl,Ch.refl _ _⟩
 ·have hx2:2<=xs.length:=by omega
  obtain⟨b,hp⟩:=ho.ptr (by omega)
  have hbk:blk t=[b]:=by simp[blk,hp]
  have last_take:∀ {m:Nat}{x:Int},xs[m]? =some x->(xs.take (m+1)).getLast?=some x:=fun h=>by rw[take_succ_get h,List.getLast?_append];rfl
  have step:∀ {m:Nat}{x y:Int},xs[m]? =some x->xs[m+1]? =some y->compactL (xs.take (m+2))=compactL (xs.take (m+1))++if x=y then [] else [y]:=fun hx hy=>by
   rw[take_succ_get hy,compactL_append,last_take hx]
   simp
  refine⟨fun n x W=>∃k:Nat,x=(k:Int)/\1<=k/\n+k=xs.length/\compactL (xs.take k)=xs.take k/\Ext w W,⟨xs.length-1,1,rfl,by omega,by omega,?_,Ch.refl _ _⟩,?_⟩
  ·match xs,hx2 with
   | x::y::l,_=>rfl
  ·rintro n _ W g ⟨k,rfl,hk1,hnk,hcp,eW⟩
   unfold F18j1
   refine IfB.dec (fun hlt=>?_) fun hge=>?_
   ·have hk:k<xs.length:=by omega
    obtain⟨m,rfl⟩:∃m,k=m+1:=⟨k-1,by omega⟩
    have hy:xs[m+1]? =some xs[m+1]:=List.getElem?_eq_getElem hk
    have hx:xs[m]? =some (xs[m]'(by omega)):=List.getElem?_eq_getElem _
    generalize xs[m+1]=y at hy
    generalize xs[m]'(by omega)=x at hx
    have hst:=step hx hy
    have ed:=extDrew W
    have eW':=eW.trans ed
    obtain⟨a,ha,hcy⟩:=owsI_get (ho.ext eW') hy
    obtain⟨a',ha',hcx⟩:=owsI_get (ho.ext eW') hx
    rw[hp] at ha ha';cases ha;cases ha'
    have hm1:IntKind.i64.wrap (((m+1:Nat):Int)-(1:Int))=(m:Int):=by rw[wrap_of (by omega) (by omega)];omega
    rw[hm1]
    refine⟨b,0,hp,⟨by omega,hlt⟩,y,by rw[Int.toNat_natCast];exact hcy,b,0,hp,⟨by omega,by omega⟩,x,by rw[Int.toNat_natCast];exact hcx,IfB.intro (fun he=>?_) fun he=>?_⟩
    ·have he:y=x:=by simpa using he
     subst he
     rw[if_pos rfl,List.append_nil,hcp] at hst
     refine⟨⟨by omega,by omega⟩,?_⟩
     refine⟨fun n' x' W'=>∃(j:Nat)(gs:List Int),1<=j/\n'+(m+1+j)=xs.length/\(compactL (xs.take (m+1+j))).length+gs.length=m+j/\x'=(((compactL (xs.take (m+1+j))).length:Int),(j:Int))/\OwS W' t 1 ((compactL (xs.take (m+1+j))++gs++xs.drop (m+j)).map iv)/\Ch (fun i=>i∈blk t) w W',
      ⟨xs.length-(m+2),1,[],by omega,by omega,?_,?_,?_,eW'.mono fun _ _ h=>h.elim⟩,?_⟩
     ·rw[hst,List.length_take];simp;omega
     ·rw[hst,List.length_take,Nat.min_eq_left (by omega)];rfl
     ·rw[hst,List.append_nil,List.take_append_drop];exact ho.ext eW'
     ·rintro n' _ W' g' ⟨j,gs,hj1,hnj,hlen,rfl,hO,hC⟩
      generalize hkd:compactL (xs.take (m+1+j))=kd at hlen hO
      have hsa:slAddr t.p t.c (((m+1:Nat):Int)).toNat 1=some ⟨b,m+1,none⟩:=by
       rw[Int.toNat_natCast,hp,slAddr_some,if_neg (by omega)];simp
      unfold F18j2
      refine IfB.dec (fun hlt'=>?_) fun hge'=>?_
      ·rw[Int.toNat_natCast] at hlt'
       have hlt'':m+1+j<xs.length:=by dsimp only at hlt';omega
       have hz:xs[m+1+j]? =some xs[m+1+j]:=List.getElem?_eq_getElem hlt''
       have hv:xs[m+j]? =some (xs[m+j]'(by omega)):=List.getElem?_eq_getElem _
       have hd1:xs.drop (m+j)=xs[m+j]'(by omega)::xs.drop (m+1+j):=by rw[show m+1+j=m+j+1 by omega];exact List.drop_eq_getElem_cons _
       have hd2:xs.drop (m+1+j)=xs[m+1+j]::xs.drop (m+1+(j+1)):=by rw[show m+1+(j+1)=m+1+j+1 by omega];exact List.drop_eq_getElem_cons _
       generalize xs[m+1+j]=z at hz hd2
       generalize xs[m+j]'(by omega)=v at hv hd1
       have hst2:compactL (xs.take (m+1+(j+1)))=kd++if v=z then [] else [z]:=by
        have:=step (m:=m+j) hv (by rw[show m+j+1=m+1+j by omega];exact hz)
        rw[show m+j+2=m+1+(j+1) by omega,show m+j+1=m+1+j by omega,hkd] at this
        exact this
       have hLz:(kd++gs++xs.drop (m+j))[m+1+j]? =some z:=by
        rw[List.getElem?_append_right (by rw[List.length_append];omega),List.length_append,show m+1+j-(kd.length+gs.length)=1 by omega,hd1,hd2];rfl
       have hLv:(kd++gs++xs.drop (m+j))[m+j]? =some v:=by
        rw[List.getElem?_append_right (by rw[List.length_append];omega),List.length_append,show m+j-(kd.length+gs.length)=0 by omega,hd1];rfl
       have ed':=extDrew W'
       have hOd:=hO.ext ed'
       obtain⟨a,ha,hcz⟩:=owsI_get hOd hLz
       obtain⟨a',ha',hcv⟩:=owsI_get hOd hLv
       rw[hp] at ha ha';cases ha;cases ha'
       have hj1':IntKind.i64.wrap ((j:Int)-(1:Int))=((j-1:Nat):Int):=wm1 (by omega) (by omega)
       have hL:(kd++gs++xs.drop (m+j)).length=xs.length:=by rw[List.length_append,List.length_append,List.length_drop];omega
       dsimp only
       rw[hj1',hsa]
       simp only[Int.toNat_natCast]
       have hzc:W'.drew.cell? ⟨b,m+1+j,none⟩=some (iv z):=by rw[Nat.zero_add] at hcz;exact hcz
       have hvc:W'.drew.cell? ⟨b,m+1+(j-1),none⟩=some (iv v):=by rw[Nat.zero_add] at hcv;rw[show m+1+(j-1)=m+j by omega];exact hcv
       refine⟨b,m+1,rfl,⟨by omega,by omega⟩,z,hzc,b,m+1,rfl,⟨by omega,by omega⟩,v,hvc,IfB.intro (fun hne=>?_) fun heq=>?_⟩
       ·have hne:z≠v:=by simpa using hne
        rw[if_neg (fun h=>hne h.symm)] at hst2
        refine⟨b,m+1,rfl,⟨by omega,by omega⟩,z,hzc,b,0,hp,⟨by omega,by show (kd.length:Int)<(t.n:Int);omega⟩,rfl,?_⟩
        rw[Nat.zero_add]
        refine hOd.store hp (by show _+1<=_;omega) (oneIv z) fun w32 hO32 hC32=>⟨(by trivial),n'-1,by omega,j+1,(gs++[v]).tail,by omega,by omega,?_,?_,?_,(hC.then ed' fun _ _ h=>h.elim).then hC32 fun i _ e=>by rw[hbk,e];simp⟩
        ·rw[hst2];simp;omega
        ·rw[hst2,wp1 (by omega),wp1 (by omega)];simp
        ·rw[show ([iv z]).length=1 from rfl,setI (by omega)] at hO32
         rw[hst2]
         have:(kd++gs++xs.drop (m+j)).set kd.length z=kd++[z]++(gs++[v]).tail++xs.drop (m+(j+1)):=by
          rw[hd1,show m+(j+1)=m+1+j by omega]
          cases gs with
          | nil=>simp
          | cons g0 gs=>simp
         rw[<-this];exact hO32
       ·have heq:z=v:=by simpa using heq
        subst heq
        rw[if_pos rfl,List.append_nil] at hst2
        refine⟨(by trivial),n'-1,by omega,j+1,gs++[z],by omega,by omega,by rw[hst2];simp;omega,?_,?_,hC.then ed' fun _ _ h=>h.elim⟩
        ·rw[hst2,wp1 (by omega)]
        ·rw[hst2]
         rw[hd1] at hOd
         rw[show m+(j+1)=m+1+j by omega]
         simpa using hOd
      ·rw[Int.toNat_natCast] at hge'
       dsimp only at hge'
       have hjn:m+1+j=xs.length:=by omega
       rw[hjn,List.take_length] at hkd
       have hkl:kd.length<t.n:=by omega
       refine⟨⟨by dsimp only;omega,by show (kd.length:Int)<=(t.n:Int);omega⟩,?_⟩
       dsimp only
       rw[Int.toNat_natCast,hp,slAddr_some]
       have hcut:=hO.cut (k:=kd.length) (by omega)
       rw[Nat.mul_one,<-List.map_take,List.append_assoc,List.take_append_of_le_length (Nat.le_refl _),List.take_length] at hcut
       dsimp only
       rw[if_neg (by omega),Nat.zero_add,Nat.mul_one]
       refine hcut.storeTail hp (by dsimp only;omega) (by rw[zc_len];show kd.length+(t.n-kd.length)*1<=t.c*1;omega) (zc_one (by intro x hx;simp at hx;subst hx;rfl) _) fun w25 hO25 hC25=>⟨⟨by omega,by omega⟩,?_⟩
       rw[<-hp,slAddr_zero]
       exact⟨⟨t.p,kd.length,t.c⟩,rfl,by rw[hkd];exact hO25,rfl,hC.then hC25 fun i _ e=>by rw[hbk,e];simp⟩
    ·have hne:x≠y:=by intro h;subst h;simp at he
     rw[if_neg hne] at hst
     refine⟨rfl,n-1,by omega,m+2,wp1 (by omega),by omega,by omega,?_,eW'⟩
     rw[hst,hcp,take_succ_get hy]
   ·have:k=xs.length:=by omega
    subst this
    rw[List.take_length] at hcp
    exact⟨t,rfl,by rw[hcp];exact ho.ext eW,rfl,eW.mono fun _ _ h=>h.elim⟩
theorem F28_ok(t0:Option Nat)(w:World)(R:RV)(h:AllocP w (Obj.cells #[Value.map t0] 59) fun b1 w2=>R (Value.func (Fn.func 33) #[] #[Value.pointer (some ⟨b1,0,none⟩)]) w2):Cw 28 #[Value.map t0] w R:=
 ckF Try.func28 .nil h (by kernel_rfl) (by kernel_rfl)
def F33(t0:Nat)(t1:Nat)(w:World)(R:RV):Prop:=∃(p1:Option Nat),w.cell? ⟨t1,0,none⟩=some (Value.map p1)/\MapItP w (Value.map p1) fun b2 w3=>Ql (α:=Unit) PUnit.unit w3 fun y4 b6 y7 w8=>NextP w8 b2 (fun w11=>R (Value.tuple #[]) w11) fun(v12 v13:Value) (w14:World)=>EntryP w14 b2 fun(v15 v16:Value)=>YW Try.prog t0 #[v15] w14 fun(t17:Bool) (w18:World)=>IfB (!t17) (R (Value.tuple #[]) w18) (Qn y4 b6 PUnit.unit w18)
theorem F33_ok(t0:Nat)(t1:Nat)(w:World)(R:RV)(h:F33 t0 t1 w R):Cw 33 #[Value.func (Fn.yield t0) #[] #[],Value.pointer (some ⟨t1,0,none⟩)] w R:=
 ckF Try.func33 (nd (.loop [] (rg [3,3,6,13]) .nil)) h (by kernel_rfl) (by kernel_rfl)
theorem F33_eq(l b:Nat)(W:World)(R:RV):F33 l b W R=KeysF Try.prog l b W R:=rfl
theorem it33{w:World}{b1:Nat}{mo:MO}{ks:List Int}(hI:KeysI b1 mo w)(hks:KeysE mo ks)(hl:ks.length<=1000000):IntIt 33 #[.pointer (some ⟨b1,0,none⟩)] w fun xs=>xs.Perm ks:=
 keysIt en33 (fun l W R h=>F33_ok l b1 W R (by rw[F33_eq];exact h)) hI hks hl
def OwQ(w:World)(s:Sl)(cs:List Value):Prop:=
 (s.n=0/\s.c=0/\cs=[]/\∀a,s.p=some a->a.spot=none)\/∃b o arr T,s.p=some ⟨b,o,none⟩/\w.heap[b]? =some (.cells arr T (0,0))/\arr.size=o+s.c/\s.n<=s.c/\(arr.toList.drop o).take s.n=cs
theorem OwS.q{w:World}{s:Sl}{cs:List Value}(h:OwS w s 1 cs):OwQ w s cs:=by
 rcases h with ⟨rfl,rfl⟩|⟨b,arr,T,h1,h2,h3,h4,rfl⟩
 ·exact .inl ⟨rfl,rfl,rfl,fun a h=>by cases h⟩
 ·exact .inr ⟨b,0,arr,T,h1,h2,by omega,h4,by simp⟩
theorem OwQ.len{w:World}{s:Sl}{cs:List Value}(h:OwQ w s cs):s.n=cs.length:=by
 rcases h with ⟨h1,_,rfl,_⟩|⟨b,o,arr,T,h1,h2,h3,h4,rfl⟩
 ·exact h1
 ·rw[List.length_take,List.length_drop,Array.length_toList];omega
theorem OwQ.ch{F:Nat->Prop}{w w':World}{s:Sl}{cs:List Value}(h:OwQ w s cs)(hc:Ch F w w')(hF:∀i∈blk s,¬F i):OwQ w' s cs:=by
 rcases h with h|⟨b,o,arr,T,h1,h2,h3⟩
 ·exact .inl h
 ·exact .inr ⟨b,o,arr,T,h1,hc.at h2 (hF b (by simp[blk,h1])),h3⟩
theorem OwQ.ext{w w':World}{s:Sl}{cs:List Value}(h:OwQ w s cs)(hc:Ext w w'):OwQ w' s cs:=h.ch hc fun _ _=>id
theorem OwQ.at{w:World}{s:Sl}{cs:List Value}(h:OwQ w s cs){i:Nat}{v:Value}(hv:cs[i]? =some v):∃b o,s.p=some ⟨b,o,none⟩/\w.cell? ⟨b,o+i,none⟩=some v:=by
 rcases h with ⟨h1,_,rfl,_⟩|⟨b,o,arr,T,h1,h2,h3,h4,rfl⟩
 ·cases hv
 ·refine⟨b,o,h1,?_⟩
  rw[cell_of h2]
  rw[List.getElem?_take] at hv
  split at hv
  ·rw[List.getElem?_drop,Array.getElem?_toList] at hv;exact hv
  ·cases hv
theorem OwQ.tail{w:World}{s:Sl}{v:Value}{cs:List Value}(h:OwQ w s (v::cs)):OwQ w ⟨slAddr s.p s.c 1 1,s.n-1,s.c-1⟩ cs/\∀i∈blk ⟨slAddr s.p s.c 1 1,s.n-1,s.c-1⟩,i∈blk s:=by
 have hl:=h.len
 rw[List.length_cons] at hl
 rcases h with ⟨h1,_,h,_⟩|⟨b,o,arr,T,h1,h2,h3,h4,h5⟩
 ·cases h
 ·rw[h1,slAddr_some]
  have hblk:blk s=[b]:=by simp[blk,h1]
  refine⟨?_,fun i hi=>by rw[hblk];simpa [blk] using hi⟩
  by_cases hc:s.c=1
  ·refine .inl ⟨by dsimp only;omega,by dsimp only;omega,List.eq_nil_of_length_eq_zero (by omega),fun a h=>by cases h;rfl⟩
  ·rw[if_neg hc]
   refine .inr ⟨b,o+1*1,arr,T,rfl,h2,by dsimp only;omega,by dsimp only;omega,?_⟩
   dsimp only
   have:=congrArg List.tail h5
   rw[List.tail_cons] at this
   rw[<-this,<-List.drop_one,List.drop_take,List.drop_drop]
theorem OwQ.append{w:World}{s:Sl}{T:TypeId}{cnt:Nat}{cs new:List Value}{te:TI}{K:Sl->World->Prop}(h:OwQ w s cs)(hsz:te.size=1)(hz:te.zero.cells.size=1)
  (hn:new.length=cnt)(h1:One new)(hr:Roomy (s.n+cnt) te.bytes)
  (hK:∀s' w',OwQ w' s' (cs++new)->Ch (fun i=>i∈blk s) w w'->(∀i∈blk s',i∈blk s\/w.heap.size<=i)->K s' w'):AppendP te T w s.p s.n s.c cnt new K:=by
 have hlen:=h.len
 refine⟨fun hc=>?_,fun hc=>⟨hr,cs,?_,fun k hk b w' ha=>?_⟩⟩
 ·rcases h with ⟨g1,g2,rfl,g3⟩|⟨b,o,arr,T',hp,ho,hs,hle,rfl⟩
  ·have:cnt=0:=by omega
   subst this
   have:new=[]:=List.eq_nil_of_length_eq_zero hn
   subst this
   have hq:OwQ w ⟨s.p,s.n+0,s.c⟩ ([]++[]):=.inl ⟨g1,g2,rfl,g3⟩
   have:=hK ⟨s.p,s.n+0,s.c⟩ w hq (Ch.refl _ _) fun i hi=>.inl hi
   cases hp:s.p with
   | none=>rw[hp] at this;exact this
   | some a=>
    obtain⟨b,o,sp⟩:=a
    rw[hp] at this
    cases sp with
    | none=>exact this
    | some x=>have:=g3 _ hp;cases this
  ·rw[hp]
   dsimp only
   rw[hsz,Nat.mul_one]
   have hb:blk s=[b]:=by simp[blk,hp]
   cases new with
   | nil=>
    have:cnt=0:=by simpa using hn.symm
    subst this
    refine hK ⟨some ⟨b,o,none⟩,s.n+0,s.c⟩ w (.inr ⟨b,o,arr,T',rfl,ho,hs,hle,by simp⟩) (Ch.refl _ _) fun i hi=>.inl (by rw[hb];simpa [blk] using hi)
   | cons v vs=>
    refine⟨arr,T',ho,by simp only[List.length_cons] at hn;omega,h1,fun w' hu=>?_⟩
    have e:=setsA_list (old:=arr) (o:=o+s.n) (vs:=v::vs) (by rw[hn];omega)
    refine hK _ _ (.inr ⟨b,o,_,T',rfl,hu.new,?_,hc,?_⟩) (hu.ch.mono fun i _ hi=>by rw[hb];simpa using hi) (fun i hi=>.inl (by rw[hb];simpa [blk] using hi))
    ·rw[<-Array.length_toList,e];simp only[List.length_append,List.length_take,List.length_drop,Array.length_toList,hs,hn];omega
    ·rw[e]
     dsimp only
     have hA:arr.toList.length=o+s.c:=by rw[Array.length_toList,hs]
     apply List.ext_getElem?
     intro j
     rw[List.getElem?_take,List.getElem?_drop]
     by_cases hj:j<s.n+cnt
     ·rw[if_pos hj]
      by_cases hj2:j<s.n
      ·rw[List.append_assoc,List.getElem?_append_left (by rw[List.length_take];omega),List.getElem?_take,if_pos (by omega),List.getElem?_append_left (by rw[List.length_take,List.length_drop];omega),List.getElem?_take,if_pos hj2,List.getElem?_drop]
      ·rw[List.append_assoc,List.getElem?_append_right (by rw[List.length_take];omega),List.length_take,List.getElem?_append_left (by rw[hn];omega),List.getElem?_append_right (by rw[List.length_take,List.length_drop];omega),List.length_take,List.length_drop]
       congr 1
       omega
     ·rw[if_neg hj,List.getElem?_eq_none]
      rw[List.length_append,hn,List.length_take,List.length_drop];omega
 ·rw[hsz,Nat.mul_one]
  rcases h with ⟨g1,g2,rfl,g3⟩|⟨b,o,arr,T',hp,ho,hs,hle,rfl⟩
  ·rw[g1]
   unfold ReadC
   split
   ·exact⟨rfl,fun i v hv=>by simp at hv⟩
   ·exact⟨rfl,rfl⟩
   ·rfl
  ·rw[hp]
   refine⟨by rw[List.length_take,List.length_drop,Array.length_toList];omega,cellsAt_of ho fun i v hv=>?_⟩
   rw[List.getElem?_take] at hv
   split at hv
   ·rw[List.getElem?_drop,Array.getElem?_toList] at hv;exact hv
   ·cases hv
 ·have e:IsAlloc w (.cells (cs++new++zc te.zero.cells (k-(s.n+cnt))).toArray T (0,0)) b w':=⟨ha.here,ha.size,ha.new,ha.old,⟨ha.rest.os,ha.rest.tape,ha.rest.output⟩⟩
  refine hK _ _ (.inr ⟨b,0,_,T,rfl,e.new,?_,hk,?_⟩) (e.ch _) (fun i hi=>.inr (Nat.le_of_eq (e.here.symm.trans (by simpa [blk] using hi:i=b).symm)))
  ·simp only[List.size_toArray,List.length_append,zc_len,hn,hz]
   omega
  ·dsimp only
   rw[List.drop_zero,List.take_append_of_le_length (by rw[List.length_append];omega),List.take_of_length_le (by rw[List.length_append];omega)]
section
variable {β:Type} {enc:β->Value}
theorem Mp.del{w:World}{r:Nat}{f:List (Int×β)}(h:Mp enc w r f){k:Int}{K:World->Prop}
  (hK:∀f' w',(∀k',getM f' k'=if k=k' then none else getM f k')->(∀e∈f',e∈f)->f'.length<=f.length->Mp enc w' r f'->Ch (fun i=>i=r) w w'->K w'):
  MapDelP (.int .i64) w (some r) (.int .i64 k) K:=by
 obtain⟨es,ck,hr,h1,h2,h3,h4⟩:=h
 obtain⟨q,hq,h⟩:=find_is (k:=k) 0 h1
 refine⟨es,ck,hr,q,hq,?_⟩
 rcases h with ⟨rfl,h5⟩|⟨f1,v0,f2,rfl,rfl,h6⟩
 ·intro w' hu
  refine hK f w' (fun k'=>?_) (fun _ h=>h) (Nat.le_refl _) ⟨_,_,hu.new,h1,h2,h3,h4⟩ hu.ch
  by_cases hk:k=k'
  ·subst hk;rw[if_pos rfl,getM_none h5]
  ·rw[if_neg hk]
 ·intro w' hu
  rw[Nat.zero_add] at hu
  have hlen:=congrArg List.length h1
  simp only[List.length_map,List.length_append,List.length_cons,Array.length_toList] at hlen
  have hi:f1.length<es.size:=by omega
  have hm:(es.eraseIdxIfInBounds f1.length).toList=es.toList.eraseIdx f1.length:=by
   unfold Array.eraseIdxIfInBounds
   rw[dif_pos hi,Array.toList_eraseIdx]
  have hme:∀ {γ:Type}(F:MapEntry->γ),(es.toList.eraseIdx f1.length).map F=(es.toList.map F).eraseIdx f1.length:=fun F=>by
   rw[List.eraseIdx_eq_take_drop_succ,List.eraseIdx_eq_take_drop_succ,List.map_append,List.map_take,List.map_drop]
  have h6':∀p∈f2,p.1≠k:=fun p hp e=>by
   rw[List.map_append,List.map_cons,List.nodup_append] at h2
   have:=(List.nodup_cons.1 h2.2.1).1
   exact this (List.mem_map.2 ⟨p,hp,e⟩)
  refine hK (f1++f2) w' (fun k'=>?_) (fun e he=>?_) (by simp) ⟨_,_,hu.new,?_,?_,?_,?_⟩ hu.ch
  ·rw[getM_append,getM_append,getM_cons]
   by_cases hk:k=k'
   ·subst hk;rw[getM_none h6,if_pos rfl,getM_none h6']
   ·rw[if_neg hk,if_neg hk]
  ·rcases List.mem_append.1 he with h|h
   ·exact List.mem_append_left _ h
   ·exact List.mem_append_right _ (List.mem_cons_of_mem _ h)
  ·rw[hm,hme,h1,List.map_append,List.map_cons,List.map_append,List.eraseIdx_append_of_length_le (by simp)]
   simp
  ·rw[List.map_append]
   rw[List.map_append,List.map_cons] at h2
   exact h2.sublist (List.Sublist.append_left (List.sublist_cons_self _ _) _)
  ·intro e he
   rw[hm] at he
   exact h3 e ((List.eraseIdx_sublist _ _).mem he)
  ·rw[hm,hme]
   exact h4.sublist (List.eraseIdx_sublist _ _)
def MpO(enc:β->Value)(w:World)(p:Option Nat)(f:List (Int×β)):Prop:=match p with
 | none=>f=[]
 | some r=>Mp enc w r f
theorem MpO.ch{F:Nat->Prop}{w w':World}{p:Option Nat}{f:List (Int×β)}(h:MpO enc w p f)(hc:Ch F w w')(hF:∀r,p=some r->¬F r):MpO enc w' p f:=by
 cases p with
 | none=>exact h
 | some r=>exact Mp.ch h hc (hF r rfl)
theorem MpO.get{w:World}{p:Option Nat}{f:List (Int×β)}(h:MpO enc w p f){k:Int}{z:Value}{K:Value->Bool->Prop}(hK:match getM f k with|some v=>K (enc v) true|none=>K z false):
  MapGetP (.int .i64) w (.map p) (.int .i64 k) z K:=by
 cases p with
 | none=>
  have:f=[]:=h
  subst this
  exact⟨[],rfl,none,rfl,hK⟩
 | some r=>exact Mp.get h hK
theorem MpO.del{w:World}{p:Option Nat}{f:List (Int×β)}(h:MpO enc w p f){k:Int}{K:World->Prop}
  (hK:∀f' w',(∀k',getM f' k'=if k=k' then none else getM f k')->(∀e∈f',e∈f)->f'.length<=f.length->MpO enc w' p f'->Ch (fun i=>p=some i) w w'->K w'):
  MapDelP (.int .i64) w p (.int .i64 k) K:=by
 cases p with
 | none=>
  have:f=[]:=h
  subst this
  exact hK [] w (fun k'=>by split<;>rfl) (fun _ h=>h) (Nat.le_refl _) rfl (Ch.refl _ _)
 | some r=>exact Mp.del h fun f' w' h1 h2 h3 h4 h5=>hK f' w' h1 h2 h3 h4 (h5.mono fun i _ e=>by rw[e])
theorem MpO.keys{w:World}{p:Option Nat}{f:List (Int×β)}(h:MpO enc w p f):∃mo:MO,mo.map (·.1)=p/\KeysE mo (f.map (·.1))/\(∀r es ck,mo=some (r,es,ck)->w.heap[r]? =some (.map es ck)):=by
 cases p with
 | none=>
  have:f=[]:=h
  subst this
  exact⟨none,rfl,rfl,fun _ _ _ h=>by cases h⟩
 | some r=>
  obtain⟨es,ck,h1,h2,h3,h4,h5⟩:=h
  refine⟨some (r,es,ck),rfl,⟨?_,h3,h4,h5⟩,fun r' es' ck' e=>by cases e;exact h1⟩
  have:=congrArg (List.map Prod.fst) h2
  rw[List.map_map,List.map_map] at this
  rw[List.map_map];exact this
theorem MpO.lt{w:World}{p:Option Nat}{f:List (Int×β)}(h:MpO enc w p f):∀r,p=some r->r<w.heap.size:=fun r e=>by
 subst e;exact Mp.lt h
theorem MpO.nodup{w:World}{p:Option Nat}{f:List (Int×β)}(h:MpO enc w p f):(f.map (·.1)).Nodup:=by
 cases p with
 | none=>
  have:f=[]:=h
  subst this;exact .nil
 | some r=>
  obtain⟨es,ck,h1,h2,h3,h4⟩:=h
  exact h3
theorem getM_of{f:List (Int×β)}(hn:(f.map (·.1)).Nodup){k:Int}{v:β}(h:(k,v)∈f):getM f k=some v:=by
 induction f with
 | nil=>cases h
 | cons p f ih=>
  rw[getM_cons]
  rw[List.map_cons,List.nodup_cons] at hn
  rcases List.mem_cons.1 h with rfl|h
  ·rw[if_pos rfl]
  ·rw[if_neg,ih hn.2 h]
   intro e
   exact hn.1 (by rw[e];exact List.mem_map_of_mem h)
end
theorem F10_ok(t0:Option Addr)(t1:Int)(w:World)(R:RV)(h:IfB t0.isNone (R (Value.slice none 0 0) w) (∃b1:Nat,∃b2:Nat,t0=some ⟨b1,b2,none⟩/\∃(p3:Option Nat),w.cell? ⟨b1,b2+0,none⟩=some (Value.map p3)/\MapGetP (TypeDesc.int IntKind.i64) w (Value.map p3) (Qz t1) (Value.slice none 0 0) fun(v4:Value) (t5:Bool)=>∃s6:Sl,v4=Qy s6/\Cx 12 #[Qy s6] w fun v7 w8=>∃s9:Sl,v7=Qy s9/\R (Qy s9) w8)):Cw 10 #[Value.pointer t0,Qz t1] w R:=
 ckF Try.func10 .nil h (by kernel_rfl) (by kernel_rfl)
def F20j1(t0:Option Addr)(R:RV)(b1:Nat)(y6:Nat->Sl->World->Prop)(b8:Nat)(s9:Sl)(w10:World):Prop:=IfB (decide (0<(s9.n:Int))) (∃b13:Nat,∃b14:Nat,s9.1=some ⟨b13,b14,none⟩/\((0:Int)<=0/\0<(s9.2:Int))/\Qi w10 b13 (b14+Int.toNat 0) fun n15=>((0:Int)<=1/\1<=(s9.2:Int))/\MapGetP (TypeDesc.int IntKind.i64) w10 (Value.map (some b1)) (Qz n15) (Value.bool false) fun(v16:Value) (t17:Bool)=>∃t18:Bool,v16=Value.bool t18/\IfB (!t18) (MapSetP (TypeDesc.int IntKind.i64) w10 (Value.map (some b1)) (Qz n15) (Value.bool true) fun w19=>Qu' 10 #[Value.pointer t0,Qz n15] w19 fun s22 w21=>∃(l23:List Value),ReadC w21 s22.1 (s22.2*1) l23/\AppendP tt3 3 w21 (slAddr s9.1 s9.3 (Int.toNat 1) 1) (s9.2-Int.toNat 1) (s9.3-Int.toNat 1) s22.2 l23 fun s24 w25=>Qn y6 b8 { p:=s24.1,n:=s24.2,c:=s24.3 } w25) (Qn y6 b8 { p:=slAddr s9.1 s9.3 (Int.toNat 1) 1,n:=s9.2-Int.toNat 1,c:=s9.3-Int.toNat 1 } w10)) (Cx 28 #[Value.map (some b1)] w10 fun v28 w29=>∃(x30:Nat×Array Value),v28=Value.func (Fn.func x30.1) #[] x30.2/\Qu' 16 #[Value.func (Fn.func x30.1) #[] x30.2] w29 fun s33 w32=>R (Qy s33) w32)
theorem F20_ok(t0:Option Addr)(t1:Int)(w:World)(R:RV)(h:AllocP w (Obj.map #[] 0) fun b1 w2=>Qu' 10 #[Value.pointer t0,Qz t1] w2 fun s5 w4=>Ql (α:=Sl) ({ p:=s5.1,n:=s5.2,c:=s5.3 }) w4 fun y6 b8 s9 w10=>(F20j1 t0 R b1 y6 b8 s9 w10)):Cw 20 #[Value.pointer t0,Qz t1] w R:=
 ckF Try.func20 (nd (nd (.node (nd (.loop [(6,.one (.sl))] (rg [6,7,12,30]) .nil)) .nil))) h (by kernel_rfl) (by kernel_rfl)
theorem F8_ok(t0:Option Addr)(t1:Int)(t2:Sl)(w:World)(R:RV)(h:AllocP w (Obj.cells #[Value.pointer t0] 40) fun b1 w2=>AllocP w2 (Obj.cells #[Qz t1] 3) fun b3 w4=>∃(p5:Option Addr),w4.cell? ⟨b1,0,none⟩=some (Value.pointer p5)/\IfB p5.isNone (R (Value.bool false) w4) (∃(p6:Option Addr),w4.drew.cell? ⟨b1,0,none⟩=some (Value.pointer p6)/\∃b7:Nat,∃b8:Nat,p6=some ⟨b7,b8,none⟩/\∃(p9:Option Nat),w4.drew.cell? ⟨b7,b8+0,none⟩=some (Value.map p9)/\Qi w4.drew b3 0 fun n10=>MapGetP (TypeDesc.int IntKind.i64) w4.drew (Value.map p9) (Qz n10) (Value.slice none 0 0) fun(v11:Value) (t12:Bool)=>∃s13:Sl,v11=Qy s13/\Cx 17 #[Qy t2] w4.drew fun v14 w15=>∃(x16:Nat×Array Value),v14=Value.func (Fn.func x16.1) #[] x16.2/\Qu' 16 #[Value.func (Fn.func x16.1) #[] x16.2] w15 fun s19 w18=>Qu' 18 #[Qy s19] w18 fun s22 w21=>Cx 15 #[Qy s22,Value.bool (decide (0<(s22.n:Int))),Value.pointer (some ⟨b1,0,none⟩),Value.pointer (some ⟨b3,0,none⟩)] w21 fun v23 w24=>∃y25:Unit,v23=Value.tuple #[]/\∃(p26:Option Addr),w24.drew.cell? ⟨b1,0,none⟩=some (Value.pointer p26)/\Qi w24.drew b3 0 fun n27=>Qi w24.drew b3 0 fun n28=>Qu' 20 #[Value.pointer p26,Qz n27] w24.drew fun s31 w30=>w30.cell? ⟨b3,0,none⟩=some (Qz n28)/\Qv' 19 #[Qy s31,Qz n28] w30 fun t34 w33=>IfB t34 (Cx 15 #[Qy s13,Value.bool t12,Value.pointer (some ⟨b1,0,none⟩),Value.pointer (some ⟨b3,0,none⟩)] w33 fun v35 w36=>∃y37:Unit,v35=Value.tuple #[]/\R (Value.bool false) w36) (R (Value.bool true) w33))):Cw 8 #[Value.pointer t0,Qz t1,Qy t2] w R:=
 ckF Try.func8 (nd (nd (.node (.draw (sts [0,1,2,3,4] (.ac 5 [] (sts [6,7,8,9,10] .fin) .non))) (nd (nd (nd (nd (.node (.node (.draw (sts [0,1,3] (.ac 2 [3] (.ac 4 [] .fin .non) .non))) .nil) .nil)))))))) h (by kernel_rfl) (by kernel_rfl)
theorem F15_ok(t0:Sl)(t1:Bool)(t2:Nat)(t3:Nat)(w:World)(R:RV)(h:∃(p1:Option Addr),w.drew.cell? ⟨t2,0,none⟩=some (Value.pointer p1)/\∃b2:Nat,∃b3:Nat,p1=some ⟨b2,b3,none⟩/\∃(p4:Option Nat),w.drew.cell? ⟨b2,b3+0,none⟩=some (Value.map p4)/\∃n5:Int,w.drew.cell? ⟨t3,0,none⟩=some (Qz n5)/\MapDelP (TypeDesc.int IntKind.i64) w.drew p4 (Qz n5) fun w6=>IfB t1 (∃(p7:Option Addr),w6.cell? ⟨t2,0,none⟩=some (Value.pointer p7)/\∃b8:Nat,∃b9:Nat,p7=some ⟨b8,b9,none⟩/\∃(p10:Option Nat),w6.cell? ⟨b8,b9+0,none⟩=some (Value.map p10)/\IfB p10.isNone (∃(p11:Option Addr),w6.cell? ⟨t2,0,none⟩=some (Value.pointer p11)/\AllocP w6 (Obj.map #[] 0) fun b12 w13=>∃b14:Nat,∃b15:Nat,p11=some ⟨b14,b15,none⟩/\#[Value.map (some b12)].size=1/\StoreP w13 b14 (b15+0) [Value.map (some b12)] fun w16=>∃(p17:Option Addr),w16.drew.cell? ⟨t2,0,none⟩=some (Value.pointer p17)/\∃b18:Nat,∃b19:Nat,p17=some ⟨b18,b19,none⟩/\∃(p20:Option Nat),w16.drew.cell? ⟨b18,b19+0,none⟩=some (Value.map p20)/\∃n21:Int,w16.drew.cell? ⟨t3,0,none⟩=some (Qz n21)/\MapSetP (TypeDesc.int IntKind.i64) w16.drew (Value.map p20) (Qz n21) (Qy t0) fun w22=>R (Value.tuple #[]) w22) (∃(p23:Option Addr),w6.drew.cell? ⟨t2,0,none⟩=some (Value.pointer p23)/\∃b24:Nat,∃b25:Nat,p23=some ⟨b24,b25,none⟩/\∃(p26:Option Nat),w6.drew.cell? ⟨b24,b25+0,none⟩=some (Value.map p26)/\∃n27:Int,w6.drew.cell? ⟨t3,0,none⟩=some (Qz n27)/\MapSetP (TypeDesc.int IntKind.i64) w6.drew (Value.map p26) (Qz n27) (Qy t0) fun w28=>R (Value.tuple #[]) w28)) (R (Value.tuple #[]) w6)):Cw 15 #[Qy t0,Value.bool t1,Value.pointer (some ⟨t2,0,none⟩),Value.pointer (some ⟨t3,0,none⟩)] w R:=
 ckF Try.func15 (.node (.draw (sts [0,1,2,3,4] (.ac 5 [] .fin .non))) (nd (.node (nd (.draw (sts [0,1,2,3,4,5] (.ac 6 [] .fin .non)))) .nil))) h (by kernel_rfl) (by kernel_rfl)
def F4(w:World)(R:RV):Prop:=AllocP w (Obj.cells #[Value.map none] 26) fun b1 w2=>1*1<=16777216/\AllocP w2 (Obj.cells #[Qz 2] 3) fun b3 w4=>Qv' 8 #[Value.pointer (some ⟨b1,0,none⟩),Qz 1,Value.slice (some ⟨b3,0,none⟩) 1 1] w4 fun t7 w6=>IfB t7 (1*1<=16777216/\AllocP w6 (Obj.cells #[Qz 1] 3) fun b8 w9=>Qv' 8 #[Value.pointer (some ⟨b1,0,none⟩),Qz 2,Value.slice (some ⟨b8,0,none⟩) 1 1] w9 fun t12 w11=>IfB (!t12) (Qu' 10 #[Value.pointer (some ⟨b1,0,none⟩),Qz 1] w11 fun s15 w14=>R (Value.bool ((s15.2:Int) == 1)) w14) (R (Value.bool false) w11)) (R (Value.bool false) w6)
theorem F4_ok(w:World)(R:RV)(h:F4 w R):Cw 4 #[] w R:=
 call_of tbOk mixed en4 Try.func4 rfl .nil (by kernel_rfl) (Nat.le_of_ble_eq_true (by kernel_rfl)) (Eq.mp (α:=F4 w R) (by kernel_rfl) h)
abbrev WE:=Sl×List Int
def encW(x:WE):Value:=slV x.1
structure Wt(w:World)(b:Nat)(p:Option Nat)(f:List (Int×WE)):Prop where
 box:∃T,w.heap[b]? =some (.cells #[.map p] T (0,0))
 map:MpO encW w p f
 rd:∀e∈f,Rd w e.2.1 1 (e.2.2.map iv)/\e.2.2≠[]/\e.2.2.length<=1000/\∀i∈blk e.2.1,i<w.heap.size/\i≠b/\p≠some i
 few:f.length<=1000
def inWt(b:Nat)(p:Option Nat)(f:List (Int×WE))(i:Nat):Prop:=i=b\/p=some i\/∃e∈f,i∈blk e.2.1
def wl(f:List (Int×WE))(k:Int):List Int:=match getM f k with
 | some x=>x.2
 | none=>[]
def En(f:List (Int×WE))(a c:Int):Prop:=c∈wl f a
section
variable {w:World} {b:Nat} {p:Option Nat} {f:List (Int×WE)}
theorem Wt.ch{F:Nat->Prop}{w':World}(h:Wt w b p f)(hc:Ch F w w')(hF:∀i,inWt b p f i->¬F i):Wt w' b p f:=by
 obtain⟨T,hT⟩:=h.box
 refine⟨⟨T,hc.at hT (hF _ (.inl rfl))⟩,h.map.ch hc fun r e=>hF r (.inr (.inl e)),fun e he=>?_,h.few⟩
 obtain⟨h1,h2,h3,h4⟩:=h.rd e he
 exact⟨h1.ch hc fun i hi=>hF i (.inr (.inr ⟨e,he,hi⟩)),h2,h3,fun i hi=>⟨Nat.lt_of_lt_of_le (h4 i hi).1 hc.size,(h4 i hi).2⟩⟩
theorem Wt.ext{w':World}(h:Wt w b p f)(hc:Ext w w'):Wt w' b p f:=h.ch hc fun _ _=>id
theorem Wt.lt(h:Wt w b p f){i:Nat}(hi:inWt b p f i):i<w.heap.size:=by
 rcases hi with rfl|hi|⟨e,he,hi⟩
 ·obtain⟨T,hT⟩:=h.box;exact heap_lt hT
 ·exact h.map.lt i hi
 ·exact((h.rd e he).2.2.2 i hi).1
theorem Wt.cell(h:Wt w b p f):w.cell? ⟨b,0+0,none⟩=some (.map p):=by obtain⟨T,hT⟩:=h.box;rw[cell_of hT];rfl
theorem wl_few(h:Wt w b p f)(k:Int):(wl f k).length<=1000:=by
 unfold wl
 cases hg:getM f k with
 | none=>simp
 | some x=>exact(h.rd _ (getM_mem hg)).2.2.1
theorem c10(h:Wt w b p f)(i:Int):Cw 10 #[.pointer (some ⟨b,0,none⟩),iv i] w fun v w'=>∃t,v=slV t/\OwS w' t 1 ((wl f i).map iv)/\Ext w w'/\∀j∈blk t,w.heap.size<=j:=by
 refine F10_ok _ i w _ (IfB.no rfl ⟨b,0,rfl,p,h.cell,h.map.get ?_⟩)
 have hw:=wl_few h i
 unfold wl at hw ⊢
 cases hg:getM f i with
 | none=>
  refine⟨⟨none,0,0⟩,rfl,(c12 (xs:=[]) (t:=⟨none,0,0⟩) ⟨rfl,rfl⟩ (by simp)).use ?_⟩
  rintro _ w' ⟨t,rfl,h1,h2,h3⟩
  exact⟨t,rfl,t,rfl,h1,h2,h3⟩
 | some x=>
  rw[hg] at hw
  refine⟨x.1,rfl,(c12 (h.rd _ (getM_mem hg)).1 (by dsimp only at hw ⊢;omega)).use ?_⟩
  rintro _ w' ⟨t,rfl,h1,h2,h3⟩
  exact⟨t,rfl,t,rfl,h1,h2,h3⟩
def allW(f:List (Int×WE)):List Int:=f.flatMap fun e=>e.2.2
theorem allW_mem{a c:Int}(h:En f a c):c∈allW f:=by
 unfold En wl at h
 cases hg:getM f a with
 | none=>rw[hg] at h;cases h
 | some x=>rw[hg] at h;exact List.mem_flatMap.2 ⟨_,getM_mem hg,h⟩
theorem allW_len:∀ {f:List (Int×WE)},(∀e∈f,e.2.2.length<=1000)->(allW f).length<=f.length*1000
 | [],_=>by simp[allW]
 | e::f,h=>by
  have ih:=allW_len (f:=f) fun e he=>h e (by simp[he])
  have:=h e (by simp)
  unfold allW at ih ⊢
  rw[List.flatMap_cons,List.length_append,List.length_cons,Nat.add_mul]
  omega
end
theorem c20{w:World}{b:Nat}{p:Option Nat}{f:List (Int×WE)}(h:Wt w b p f)(i:Int):Cw 20 #[.pointer (some ⟨b,0,none⟩),iv i] w fun v w'=>∃t,∃xs:List Int,v=slV t/\xs.Pairwise (· < ·)/\(∀k,k∈xs↔TC (En f) i k)/\xs.length<=1000000/\OwS w' t 1 (xs.map iv)/\Ext w w'/\∀j∈blk t,w.heap.size<=j:=by
 refine F20_ok _ i w _ ?_
 intro b1 w2 a2
 have e2:Ext w w2:=a2.ch _
 have p2:=a2.here
 have z2:=a2.size
 refine(c10 (h.ext e2) i).use ?_
 rintro _ w4 ⟨s5,rfl,ho5,e4,hb5⟩
 have hU:=allW_len (f:=f) fun e he=>(h.rd e he).2.2.1
 have hUf:=h.few
 have z4:=e4.size
 have hw0:=wl_few h i
 refine⟨s5,rfl,fun n s W=>∃(F:List (Int×Bool))(T:List Int),Mp Value.bool W b1 F/\(∀e∈F,e.2=true)/\OwQ W s (T.map iv)/\(∀j∈blk s,w2.heap.size<=j)/\Ch (fun j=>w.heap.size<=j) w W/\w2.heap.size<=W.heap.size/\
   (∀k,(getM F k≠none\/k∈T)->TC (En f) i k)/\(∀k,En f i k->getM F k≠none\/k∈T)/\(∀k c,getM F k≠none->En f k c->getM F c≠none\/c∈T)/\n=((allW f).length-F.length)*1001+T.length/\T.length<=1000*(F.length+1),?_,?_⟩
 ·refine⟨_,[],wl f i,(Mp.new a2).ext e4,by simp,ho5.q,hb5,(e2.trans e4).mono fun _ _ h=>h.elim,z4,?_,fun k hk=>.inr hk,fun k c hk=>absurd rfl hk,rfl,by simp;omega⟩
  rintro k (hk|hk)
  ·exact absurd rfl hk
  ·exact .one hk
 ·rintro n s W g ⟨F,T,hM,hT,hQ,hbs,hC,hsz,k1,k2,k3,hn,hTl⟩
  have x0:Ext w W:=hC.mono fun j hj h=>by omega
  have hW:=h.ext x0
  have hnod:(F.map (·.1)).Nodup:=MpO.nodup (p:=some b1) hM
  have hFU:∀k∈F.map (·.1),k∈allW f:=fun k hk=>by
   have:=k1 k (.inl (getM_key.1 hk))
   obtain⟨c,hc,_⟩:=this.last
   exact allW_mem hc
  have hFl:F.length<=(allW f).length:=by have:=nodup_le hnod hFU;rwa [List.length_map] at this
  have hsn:s.n=T.length:=by have:=hQ.len;rwa [List.length_map] at this
  have hb1W:=hM.lt
  unfold F20j1
  refine IfB.dec (fun hlt=>?_) fun hge=>?_
  ·cases T with
   | nil=>simp at hsn;omega
   | cons k T=>
    obtain⟨a,o,ha,hc⟩:=hQ.at (i:=0) (v:=iv k) rfl
    obtain⟨hQt,hbt⟩:=OwQ.tail hQ
    rw[List.length_cons] at hsn hn hTl
    refine⟨a,o,ha,⟨by omega,by omega⟩,k,hc,⟨by omega,by omega⟩,hM.get ?_⟩
    cases hg:getM F k with
    | some t=>
     have ht:=hT _ (getM_mem hg)
     have ht:t=true:=ht
     subst ht
     refine⟨true,rfl,IfB.no rfl ⟨rfl,n-1,by omega,F,T,hM,hT,hQt,fun j hj=>hbs j (hbt j hj),hC,hsz,fun k' hk'=>k1 k' (hk'.imp id fun h=>List.mem_cons_of_mem _ h),fun k' hk'=>?_,fun k' c hk' hc'=>?_,by omega,by omega⟩⟩
     ·rcases k2 k' hk' with h|h
      ·exact .inl h
      ·rcases List.mem_cons.1 h with rfl|h
       ·exact .inl (by rw[hg];simp)
       ·exact .inr h
     ·rcases k3 k' c hk' hc' with h|h
      ·exact .inl h
      ·rcases List.mem_cons.1 h with rfl|h
       ·exact .inl (by rw[hg];simp)
       ·exact .inr h
    | none=>
     have hTC:TC (En f) i k:=k1 k (.inr (by simp))
     have hkU:k∈allW f:=by
      obtain⟨c,hc,_⟩:=hTC.last
      exact allW_mem hc
     refine⟨false,rfl,IfB.yes rfl (Mp.set (enc:=Value.bool) (v:=true) hM fun F' w19 hF' hM' hc19=>?_)⟩
     have hC19:=hC.then hc19 fun j _ e=>(by omega:w.heap.size<=j)
     have x19:Ext w w19:=hC19.mono fun j hj h=>by omega
     refine(c10 (h.ext x19) k).use ?_
     rintro _ w21 ⟨s22,rfl,ho22,e21,hb22⟩
     have hn22:=owsI ho22
     have hwk:=wl_few h k
     have z19:=hc19.size
     have hnod':(F'.map (·.1)).Nodup:=MpO.nodup (p:=some b1) hM'
     have hF'mem:∀e∈F',e=(k,true)\/e∈F:=fun e he=>by
      have h1:=getM_of hnod' (k:=e.1) (v:=e.2) he
      rw[hF'] at h1
      by_cases hk:k=e.1
      ·rw[if_pos hk] at h1
       left
       have:=Option.some.inj h1
       rw[Prod.ext_iff];exact⟨hk.symm,this.symm⟩
      ·rw[if_neg hk] at h1
       exact .inr (getM_mem h1)
     have hkF:k∉F.map (·.1):=fun hk=>(getM_key.1 hk) hg
     have hF'len:F'.length=F.length+1:=by
      have h1:F'.length<=((k::F.map (·.1))).length:=by
       have:=nodup_le (b:=k::F.map (·.1)) hnod' fun x hx=>by
        obtain⟨e,he,rfl⟩:=List.mem_map.1 hx
        rcases hF'mem e he with rfl|he
        ·simp
        ·exact List.mem_cons_of_mem _ (List.mem_map_of_mem he)
       rwa [List.length_map] at this
      have h2:((k::F.map (·.1))).length<=F'.length:=by
       have:=nodup_le (a:=k::F.map (·.1)) (b:=F'.map (·.1)) (List.nodup_cons.2 ⟨hkF,hnod⟩) fun x hx=>by
        rw[getM_key,hF']
        rcases List.mem_cons.1 hx with rfl|hx
        ·rw[if_pos rfl];simp
        ·by_cases hk:k=x
         ·rw[if_pos hk];simp
         ·rw[if_neg hk];exact getM_key.1 hx
       rwa [List.length_map] at this
      simp only[List.length_cons,List.length_map] at h1 h2
      omega
     have hF'U:F'.length<=(allW f).length:=by
      rw[hF'len]
      have:=nodup_le (a:=k::F.map (·.1)) (b:=allW f) (List.nodup_cons.2 ⟨hkF,hnod⟩) fun x hx=>by
       rcases List.mem_cons.1 hx with rfl|hx
       ·exact hkU
       ·exact hFU x hx
      simpa using this
     have hQ21:OwQ w21 ⟨slAddr s.p s.c 1 1,s.n-1,s.c-1⟩ (T.map iv):=by
      refine(hQt.ch hc19 fun j hj e=>?_).ext e21
      have:=hbs j (hbt j hj);omega
     refine⟨s22,rfl,(wl f k).map iv,ho22.readAll,?_⟩
     refine hQ21.append (cnt:=s22.n) rfl rfl (by rw[List.length_map];exact hn22.symm) (fun v hv=>by obtain⟨x,_,rfl⟩:=List.mem_map.1 hv;rfl) ⟨by dsimp only;omega,?_⟩ fun s' w25 hQ' hc25 hb25=>?_
     ·show 2*(s.n-1+s22.n)*8<=_
      omega
     ·have z21:=e21.size
      have hC25:Ch (fun j=>w.heap.size<=j) w w25:=(hC19.then e21 fun _ _ h=>h.elim).then hc25 fun j _ hj=>by have:=hbs j (hbt j hj);omega
      have z25:=hc25.size
      refine⟨rfl,((allW f).length-F'.length)*1001+(T.length+(wl f k).length),?_,F',T++wl f k,(hM'.ext e21).ch hc25 (fun hj=>by have:=hbs _ (hbt _ hj);omega),fun e he=>?_,by rw[List.map_append];exact hQ',fun j hj=>?_,hC25,by omega,?_,?_,?_,by rw[List.length_append],by rw[List.length_append,hF'len];omega⟩
      ·rw[hn,hF'len]
       have:(allW f).length-F.length=((allW f).length-(F.length+1))+1:=by omega
       rw[this,Nat.add_mul]
       omega
      ·rcases hF'mem e he with rfl|he
       ·rfl
       ·exact hT e he
      ·rcases hb25 j hj with hj|hj
       ·exact hbs j (hbt j hj)
       ·omega
      ·rintro k' (hk'|hk')
       ·rw[hF'] at hk'
        by_cases hkk:k=k'
        ·subst hkk;exact hTC
        ·rw[if_neg hkk] at hk';exact k1 k' (.inl hk')
       ·rcases List.mem_append.1 hk' with hk'|hk'
        ·exact k1 k' (.inr (List.mem_cons_of_mem _ hk'))
        ·exact .more hTC hk'
      ·have up:∀ {k'},(getM F k'≠none\/k'∈k::T)->getM F' k'≠none\/k'∈T++wl f k:=fun{k'} h=>by
        rw[hF']
        by_cases hkk:k=k'
        ·rw[if_pos hkk];exact .inl (by simp)
        ·rw[if_neg hkk]
         rcases h with h|h
         ·exact .inl h
         ·rcases List.mem_cons.1 h with rfl|h
          ·exact absurd rfl hkk
          ·exact .inr (List.mem_append_left _ h)
       exact fun k' hk'=>up (k2 k' hk')
      ·intro k' c hk' hc'
       by_cases hkk:k=k'
       ·subst hkk;exact .inr (List.mem_append_right _ hc')
       ·rw[hF',if_neg hkk] at hk'
        rw[hF']
        by_cases hkc:k=c
        ·rw[if_pos hkc];exact .inl (by simp)
        ·rw[if_neg hkc]
         rcases k3 k' c hk' hc' with h|h
         ·exact .inl h
         ·rcases List.mem_cons.1 h with rfl|h
          ·exact absurd rfl hkc
          ·exact .inr (List.mem_append_left _ h)
  ·have hT0:T=[]:=List.eq_nil_of_length_eq_zero (by omega)
   subst hT0
   obtain⟨mo,hm,hks,hmo⟩:=MpO.keys (p:=some b1) hM
   refine CW.use (F28_ok (some b1) W (fun v w'=>∃b2 T,v=.func (.func 33) #[] #[.pointer (some ⟨b2,0,none⟩)]/\IsAlloc W (.cells #[.map (some b1)] T (0,0)) b2 w') fun b2 w' a=>⟨b2,_,rfl,a⟩) ?_
   rintro _ w29 ⟨b2,T,rfl,a29⟩
   have e29:Ext W w29:=a29.ch _
   have z29:=a29.size
   have hKI:KeysI b2 mo w29:=⟨⟨T,by rw[hm];exact a29.new⟩,by
    match mo,hmo with
    | none,_=>trivial
    | some (r,es,ck),hmo=>exact e29.at (hmo r es ck rfl)⟩
   refine⟨(33,_),rfl,(sorted_of (it33 hKI hks (by rw[List.length_map];omega))).use ?_⟩
   rintro _ w32 ⟨t,xs,ys,rfl,hp,hp2,hyl,hs,ho,e32,hb⟩
   have hpp:=hp2.trans hp
   have hxn:xs.Nodup:=hpp.nodup_iff.2 hnod
   have zW:=hC.size
   refine⟨t,rfl,t,xs,rfl,?_,fun k=>?_,by rw[hp2.length_eq];exact hyl,ho,?_,fun j hj=>by have:=hb j hj;omega⟩
   ·exact hs.imp₂ (fun a b h1 h2=>by omega) hxn
   ·rw[hpp.mem_iff,getM_key]
    constructor
    ·exact fun hk=>k1 k (.inl hk)
    ·intro hk
     have clos:∀k,TC (En f) i k->getM F k≠none:=fun k hk=>by
      induction hk with
      | one e=>exact(k2 _ e).resolve_right (by simp)
      | more _ e ih=>exact(k3 _ _ ih e).resolve_right (by simp)
     exact clos k hk
   ·exact(x0.trans e29).trans e32
theorem notMap{w:World}{b j:Nat}{cs:Array Value}{T:TypeId}{p:Option Nat}{f:List (Int×WE)}(hb:w.heap[b]? =some (.cells cs T (0,0)))(h:MpO encW w p f):p≠some b:=by
 rintro rfl
 obtain⟨es,ck,h1,_⟩:=h
 rw[hb] at h1;cases h1
theorem mem_of_law{f f':List (Int×WE)}{i:Int}{x:WE}(hn:(f'.map (·.1)).Nodup)(hf:∀k,getM f' k=if i=k then some x else getM f k):∀e∈f',e=(i,x)\/e∈f:=fun e he=>by
 have h1:=getM_of hn (k:=e.1) (v:=e.2) he
 rw[hf] at h1
 by_cases hk:i=e.1
 ·rw[if_pos hk] at h1
  left
  have:=Option.some.inj h1
  rw[Prod.ext_iff];exact⟨hk.symm,this.symm⟩
 ·rw[if_neg hk] at h1
  exact .inr (getM_mem h1)
theorem len_of_law{f f':List (Int×WE)}{i:Int}{x:WE}(hn:(f'.map (·.1)).Nodup)(hf:∀k,getM f' k=if i=k then some x else getM f k):f'.length<=f.length+1:=by
 have:=nodup_le (b:=i::f.map (·.1)) hn fun k hk=>by
  obtain⟨e,he,rfl⟩:=List.mem_map.1 hk
  rcases mem_of_law hn hf e he with rfl|he
  ·simp
  ·exact List.mem_cons_of_mem _ (List.mem_map_of_mem he)
 simpa using this
def setW(f:List (Int×WE))(i:Int)(o:Option WE)(k:Int):Option WE:=if i=k then o else getM f k
theorem c15{w:World}{b:Nat}{p:Option Nat}{f:List (Int×WE)}(h:Wt w b p f){b1 b3:Nat}{i:Int}{T1 T3:TypeId}(hb1:w.heap[b1]? =some (.cells #[.pointer (some ⟨b,0,none⟩)] T1 (0,0)))(hb3:w.heap[b3]? =some (.cells #[iv i] T3 (0,0)))(n1:b1≠b)(n3:b3≠b)
  {t:Sl}{x:List Int}(some':Bool)(hx:some'=true->Rd w t 1 (x.map iv)/\x≠[]/\x.length<=1000/\∀j∈blk t,j<w.heap.size/\j≠b/\p≠some j)(hf:f.length<=999):
  Cw 15 #[slV t,.bool some',.pointer (some ⟨b1,0,none⟩),.pointer (some ⟨b3,0,none⟩)] w fun v w'=>v=.tuple #[]/\∃p' f',Wt w' b p' f'/\(∀k,getM f' k=setW f i (if some' then some (t,x) else none) k)/\f'.length<=f.length+1/\(∀e∈f',e=(i,(t,x))/\some'=true\/e∈f)/\(p'=p\/∃r,p'=some r/\w.heap.size<=r)/\Ch (fun j=>j=b\/p=some j) w w':=by
 refine F15_ok t some' b1 b3 w _ ?_
 have ed:=extDrew w
 have H:=h.ext ed
 obtain⟨T,hT⟩:=h.box
 have pb:p≠some b:=notMap (j:=0) hT h.map
 have pb1:p≠some b1:=notMap (j:=0) hb1 h.map
 have pb3:p≠some b3:=notMap (j:=0) hb3 h.map
 have q1:∀ {W:World},W.heap[b1]? =some (.cells #[.pointer (some ⟨b,0,none⟩)] T1 (0,0))->W.cell? ⟨b1,0,none⟩=some (.pointer (some ⟨b,0,none⟩)):=fun h=>by rw[cell_of h];rfl
 have q3:∀ {W:World},W.heap[b3]? =some (.cells #[iv i] T3 (0,0))->W.cell? ⟨b3,0,none⟩=some (iv i):=fun h=>by rw[cell_of h];rfl
 refine⟨_,q1 hb1,b,0,rfl,p,H.cell,i,q3 hb3,H.map.del fun f1 w6 hf1 hm1 hl1 hM6 hc6=>?_⟩
 have hC6:Ch (fun j=>j=b\/p=some j) w w6:=(ed.mono fun _ _ h=>h.elim).then hc6 fun j _ e=>.inr e
 have hb1':=hc6.at (ed.at hb1) pb1
 have hb3':=hc6.at (ed.at hb3) pb3
 have hT6:=hc6.at (ed.at hT) pb
 have keep:∀ {W:World}{F:Nat->Prop},Ch F w W->(∀j,F j->j=b\/p=some j)->∀e∈f,∀p':Option Nat,(∀j∈blk e.2.1,p'≠some j)->Rd W e.2.1 1 (e.2.2.map iv)/\e.2.2≠[]/\e.2.2.length<=1000/\∀i∈blk e.2.1,i<W.heap.size/\i≠b/\p'≠some i:=by
  intro W F hC hF e he p' hp'
  obtain⟨r1,r2,r3,r4⟩:=h.rd e he
  refine⟨r1.ch hC fun j hj hFj=>?_,r2,r3,fun j hj=>⟨Nat.lt_of_lt_of_le (r4 j hj).1 hC.size,(r4 j hj).2.1,hp' j hj⟩⟩
  rcases hF j hFj with e|e
  ·exact(r4 j hj).2.1 e
  ·exact(r4 j hj).2.2 e
 cases some' with
 | false=>
  refine IfB.no rfl ⟨rfl,p,f1,⟨⟨T,hT6⟩,hM6,fun e he=>keep hC6 (fun _ h=>h) e (hm1 e he) p fun j hj=>((h.rd e (hm1 e he)).2.2.2 j hj).2.2,by omega⟩,hf1,by omega,fun e he=>.inr (hm1 e he),.inl rfl,hC6⟩
 | true=>
  obtain⟨x1,x2,x3,x4⟩:=hx rfl
  have setLaw:∀ {f':List (Int×WE)},(∀k,getM f' k=if i=k then some (t,x) else getM f1 k)->∀k,getM f' k=if i=k then some (t,x) else getM f k:=fun h k=>by
   rw[h,hf1]
   by_cases hk:i=k
   ·rw[if_pos hk,if_pos hk]
   ·rw[if_neg hk,if_neg hk,if_neg hk]
  refine IfB.yes rfl ⟨_,q1 hb1',b,0,rfl,p,by rw[cell_of hT6];rfl,?_⟩
  cases hp:p with
  | none=>
   subst hp
   refine IfB.yes rfl ⟨_,q1 hb1',fun b12 w13 a13=>⟨b,0,rfl,rfl,?_⟩⟩
   have e13:Ext w6 w13:=a13.ch _
   have hp13:=a13.here
   have z13:=a13.size
   have z6:=hC6.size
   have hbl:=heap_lt hT
   have hb1l:=heap_lt hb1
   have hb3l:=heap_lt hb3
   refine store_one (e13.at hT6) (by simp) rfl fun w16 u16=>?_
   have hb1'':=u16.ch.at (e13.at hb1') n1
   have hb3'':=u16.ch.at (e13.at hb3') n3
   have hN:Mp encW w16 b12 []:=(Mp.new a13).ch u16.ch (fun e=>by omega)
   have e16:=extDrew w16
   refine⟨_,q1 hb1'',b,0,rfl,some b12,by rw[cell_of (e16.at u16.new)];rfl,i,q3 hb3'',Mp.set (enc:=encW) (v:=(t,x)) (hN.ext e16) fun f' w22 hf' hM' hc'=>?_⟩
   have hf1e:f1=[]:=hM6
   subst hf1e
   have law:=setLaw hf'
   have hC:Ch (fun j=>j=b\/(none:Option Nat)=some j) w w22:=(((hC6.then e13 fun _ _ h=>h.elim).then u16.ch fun j _ e=>.inl e).then e16 fun _ _ h=>h.elim).then hc' fun j hj e=>by omega
   have hnod:(f'.map (·.1)).Nodup:=MpO.nodup (p:=some b12) hM'
   have hmem:=mem_of_law hnod law
   refine⟨rfl,some b12,f',⟨⟨T,?_⟩,hM',fun e he=>?_,by have:=len_of_law hnod law;omega⟩,law,len_of_law hnod law,fun e he=>(hmem e he).imp (fun h=>⟨h,rfl⟩) id,.inr ⟨b12,rfl,by omega⟩,hC⟩
   ·rw[hc'.old b (by rw[show w16.drew.heap.size=w16.heap.size from rfl,u16.size];omega) (by omega)]
    exact u16.new
   ·rcases hmem e he with rfl|he
    ·refine⟨x1.ch hC fun j hj hFj=>?_,x2,x3,fun j hj=>⟨Nat.lt_of_lt_of_le (x4 j hj).1 hC.size,(x4 j hj).2.1,fun e=>?_⟩⟩
     ·rcases hFj with e|e
      ·exact(x4 j hj).2.1 e
      ·cases e
     ·have:=(x4 j hj).1;cases e;omega
    ·exact keep hC (fun _ h=>h) e he _ fun j hj e'=>by have:=((h.rd e he).2.2.2 j hj).1;cases e';omega
  | some r=>
   subst hp
   have e6:=extDrew w6
   refine IfB.no rfl ⟨_,q1 hb1',b,0,rfl,some r,by rw[cell_of (e6.at hT6)];rfl,i,q3 hb3',Mp.set (enc:=encW) (v:=(t,x)) (Mp.ext hM6 e6) fun f' w28 hf' hM' hc'=>?_⟩
   have law:=setLaw hf'
   have hC:Ch (fun j=>j=b\/some r=some j) w w28:=(hC6.then e6 fun _ _ h=>h.elim).then hc' fun j _ e=>.inr (by rw[e])
   have hnod:(f'.map (·.1)).Nodup:=MpO.nodup (p:=some r) hM'
   have hmem:=mem_of_law hnod law
   refine⟨rfl,some r,f',⟨⟨T,?_⟩,hM',fun e he=>?_,by have:=len_of_law hnod law;omega⟩,law,len_of_law hnod law,fun e he=>(hmem e he).imp (fun h=>⟨h,rfl⟩) id,.inl rfl,hC⟩
   ·exact hc'.at (e6.at hT6) fun e=>pb (by rw[e])
   ·rcases hmem e he with rfl|he
    ·refine⟨x1.ch hC fun j hj hFj=>?_,x2,x3,fun j hj=>⟨Nat.lt_of_lt_of_le (x4 j hj).1 hC.size,(x4 j hj).2⟩⟩
     rcases hFj with e|e
     ·exact(x4 j hj).2.1 e
     ·exact(x4 j hj).2.2 e
    ·exact keep hC (fun _ h=>h) e he _ fun j hj=>((h.rd e he).2.2.2 j hj).2.2
def EnS(f:List (Int×WE))(i:Int)(l:List Int)(a c:Int):Prop:=c∈if i=a then l else wl f a
def valW(o:Option WE):List Int:=match o with
 | some x=>x.2
 | none=>[]
theorem wl_set{f f':List (Int×WE)}{i:Int}{o:Option WE}(h:∀k,getM f' k=setW f i o k)(k:Int):wl f' k=if i=k then valW o else wl f k:=by
 have e:∀f k,wl f k=valW (getM f k):=fun _ _=>rfl
 rw[e,e,h]
 unfold setW
 by_cases hk:i=k
 ·rw[if_pos hk,if_pos hk]
 ·rw[if_neg hk,if_neg hk]
theorem MpO.get'{β:Type}{enc:β->Value}{w:World}{p:Option Nat}{f:List (Int×β)}(h:MpO enc w p f){k:Int}{z:Value}{K:Value->Bool->Prop}(hK:∀o:Option β,getM f k=o->K ((o.map enc).getD z) o.isSome):
  MapGetP (.int .i64) w (.map p) (.int .i64 k) z K:=h.get (by
 have:=hK _ rfl
 cases hg:getM f k with
 | none=>rw[hg] at this;exact this
 | some v=>rw[hg] at this;exact this)
theorem c17(t:Sl)(w:World):Cw 17 #[slV t] w fun v w'=>∃b T,v=.func (.func 26) #[] #[.pointer (some ⟨b,0,none⟩)]/\IsAlloc w (.cells #[slV t] T (0,0)) b w':=
 F17_ok t w _ fun b w' a=>⟨b,_,rfl,a⟩
theorem c8{w:World}{b:Nat}{p:Option Nat}{f:List (Int×WE)}(h:Wt w b p f)(i:Int){t:Sl}{l:List Int}(hr:Rd w t 1 (l.map iv))(hl:l.length<=1000)(hf:f.length<=998):
  Cw 8 #[.pointer (some ⟨b,0,none⟩),iv i,slV t] w fun v w'=>∃p' f',∃pl:List Int,Wt w' b p' f'/\f'.length<=f.length+2/\Ch (fun j=>j=b\/p=some j) w w'/\(∀j,inWt b p' f' j->inWt b p f j\/w.heap.size<=j)/\pl.Pairwise (· < ·)/\(∀k,k∈pl↔k∈l)/\
   ((TC (EnS f i pl) i i/\v=.bool false/\∀k,wl f' k=wl f k)\/(¬TC (EnS f i pl) i i/\v=.bool true/\∀k,wl f' k=if i=k then pl else wl f k)):=by
 refine F8_ok _ i t w _ ?_
 intro b1 w2 a2 b3 w4 a4
 have e2:Ext w w2:=a2.ch _
 have e4:Ext w2 w4:=a4.ch _
 have p2:=a2.here;have p4:=a4.here;have z2:=a2.size;have z4:=a4.size
 have ed:=extDrew w4
 have x4:Ext w w4.drew:=(e2.trans e4).trans ed
 have hB1:w4.heap[b1]? =some (.cells #[.pointer (some ⟨b,0,none⟩)] 40 (0,0)):=e4.at a2.new
 have hB3:w4.heap[b3]? =some (.cells #[iv i] 3 (0,0)):=a4.new
 have H4:=h.ext x4
 obtain⟨Tb,hTb⟩:=h.box
 have hbl:=heap_lt hTb
 refine⟨some ⟨b,0,none⟩,by rw[cell_of hB1];rfl,IfB.no rfl ⟨some ⟨b,0,none⟩,by rw[cell_of (ed.at hB1)];rfl,b,0,rfl,p,H4.cell,i,by rw[cell_of (ed.at hB3)];rfl,H4.map.get' fun o ho=>?_⟩⟩
 obtain⟨s13,hs13a,hs13⟩:∃s13:Sl,(o.map encW).getD (Value.slice none 0 0)=slV s13/\(∀x,o=some x->s13=x.1):=by
  cases o with
  | none=>exact⟨⟨none,0,0⟩,rfl,fun x h=>by cases h⟩
  | some x=>exact⟨x.1,rfl,fun y h=>by cases h;rfl⟩
 refine⟨s13,hs13a,(c17 t w4.drew).use ?_⟩
 rintro _ w15 ⟨b',T',rfl,a15⟩
 have e15:Ext w4.drew w15:=a15.ch _
 have hrv:IntIt 26 #[.pointer (some ⟨b',0,none⟩)] w15 fun ys=>ys=l:=valuesIt a15.new ((hr.ext x4).ext e15) (fun h0 j hj=>by
  have:=rd_lt hr (by omega) h0 j hj
  have:=x4.size;have:=e15.size;omega) (by omega)
 refine⟨(26,_),rfl,(sorted_of hrv).use ?_⟩
 rintro _ w18 ⟨s19,xs,ys,rfl,rfl,hp,_,hs,ho19,e18,hb19⟩
 have hxl:xs.length<=1000:=by rw[hp.length_eq];exact hl
 refine⟨s19,rfl,(c18 ho19 (by omega)).use ?_⟩
 rintro _ w21 ⟨s22,rfl,ho22,hp22,hc22⟩
 have hbk:∀j∈blk s22,w15.heap.size<=j:=fun j hj=>hb19 j (by unfold blk at hj ⊢;rw[hp22] at hj;exact hj)
 have x15:=x4.trans e15
 have x18:=x15.trans e18
 have z4d:w4.drew.heap.size=w4.heap.size:=rfl
 have z15:=e15.size
 have z18:=e18.size
 have x21:Ext w w21:=x18.then hc22 fun j hj h=>by have:=hb19 j h;omega
 have y21:Ext w4 w21:=((ed.trans e15).trans e18).then hc22 fun j hj h=>by have:=hb19 j h;omega
 have H21:=h.ext x21
 have foot1:∀ {p' f'},(∀e∈f',e∈f\/(∀j∈blk e.2.1,w.heap.size<=j))->(p'=p\/∃r,p'=some r/\w.heap.size<=r)->∀j,inWt b p' f' j->inWt b p f j\/w.heap.size<=j:=by
  rintro p' f' hm hp' j (rfl|hj|⟨e,he,hj⟩)
  ·exact .inl (.inl rfl)
  ·rcases hp' with rfl|⟨r,rfl,hr⟩
   ·exact .inl (.inr (.inl hj))
   ·cases hj;exact .inr hr
  ·rcases hm e he with h'|h'
   ·exact .inl (.inr (.inr ⟨e,h',hj⟩))
   ·exact .inr (h' j hj)
 have hpll:=compactL_len xs
 have hn22:=owsI ho22
 generalize hpl:compactL xs=pl at ho22 hpll hn22
 have hpls:pl.Pairwise (· < ·):=by rw[<-hpl];exact compactL_sorted hs
 have hplm:∀k,k∈pl↔k∈ys:=fun k=>by rw[<-hpl,compactL_mem];exact hp.mem_iff
 have hpne:decide ((0:Int)<(s22.n:Int))=true->pl≠[]:=fun h e=>by
  rw[e] at hn22
  have:=of_decide_eq_true h
  simp at hn22;omega
 have zx:=x21.size
 refine⟨s22,rfl,(c15 H21 (y21.at hB1) (y21.at hB3) (by omega) (by omega) (t:=s22) (x:=pl) _ (fun hsome=>⟨ho22.rd,hpne hsome,by omega,fun j hj=>⟨ho22.lt j hj,by have:=hbk j hj;omega,fun e=>by have:=hbk j hj;have:=h.map.lt j e;omega⟩⟩) (by omega)).use ?_⟩
 rintro _ w24 ⟨rfl,p1,f1,H24,law1,len1,mem1,hp1,hc24⟩
 have z24:=hc24.size
 have hB1n:¬(b1=b\/p=some b1):=fun h'=>h'.elim (fun e=>by omega) fun e=>by have:=h.map.lt b1 e;omega
 have hB3n:¬(b3=b\/p=some b3):=fun h'=>h'.elim (fun e=>by omega) fun e=>by have:=h.map.lt b3 e;omega
 have hB1':=hc24.at (y21.at hB1) hB1n
 have hB3':=hc24.at (y21.at hB3) hB3n
 have e24:=extDrew w24
 have hwl1:∀k,wl f1 k=if i=k then pl else wl f k:=fun k=>by
  rw[wl_set law1 k]
  by_cases hk:i=k
  ·rw[if_pos hk,if_pos hk]
   cases hd:decide ((0:Int)<(s22.n:Int)) with
   | true=>rfl
   | false=>
    have:=of_decide_eq_false hd
    have:pl=[]:=List.eq_nil_of_length_eq_zero (by omega)
    rw[this];rfl
  ·rw[if_neg hk,if_neg hk]
 have hEn:∀a c,En f1 a c↔EnS f i pl a c:=fun a c=>by unfold En EnS;rw[hwl1]
 have hTC:∀ {a c},TC (En f1) a c↔TC (EnS f i pl) a c:=fun{a c}=>⟨fun h=>h.mono fun a c=>(hEn a c).1,fun h=>h.mono fun a c=>(hEn a c).2⟩
 refine⟨(),rfl,_,by rw[cell_of (e24.at hB1')];rfl,i,by rw[cell_of (e24.at hB3')];rfl,i,by rw[cell_of (e24.at hB3')];rfl,(c20 (H24.ext e24) i).use ?_⟩
 rintro _ w30 ⟨s31,zs,rfl,hzs,hzm,hzl,ho31,e30,hb31⟩
 have x30:Ext w24 w30:=e24.trans e30
 refine⟨s31,rfl,by rw[cell_of (x30.at hB3')];rfl,(c19 ho31.rd hzl i).use ?_⟩
 rintro _ _ ⟨rfl,rfl⟩
 have C30:Ch (fun j=>j=b\/p=some j) w w30:=((x21.mono fun _ _ h=>h.elim).trans hc24).then x30 fun _ _ h=>h.elim
 refine⟨_,rfl,IfB.dec (fun hin=>?_) fun hin=>?_⟩
 ·have hcyc:=hTC.1 ((hzm i).1 hin)
  have H30:=H24.ext x30
  have hsome:o.isSome=true->Rd w30 s13 1 (((o.map (·.2)).getD []).map iv)/\((o.map (·.2)).getD [])≠[]/\((o.map (·.2)).getD []).length<=1000/\∀j∈blk s13,j<w30.heap.size/\j≠b/\p1≠some j:=fun hs=>by
   cases o with
   | none=>cases hs
   | some x=>
    have hs13:=hs13 x rfl
    subst hs13
    obtain⟨r1,r2,r3,r4⟩:=h.rd _ (getM_mem ho)
    refine⟨r1.ch C30 fun j hj hFj=>?_,r2,r3,fun j hj=>⟨Nat.lt_of_lt_of_le (r4 j hj).1 C30.size,(r4 j hj).2.1,?_⟩⟩
    ·rcases hFj with e|e
     ·exact(r4 j hj).2.1 e
     ·exact(r4 j hj).2.2 e
    ·rcases hp1 with rfl|⟨r,rfl,hr'⟩
     ·exact(r4 j hj).2.2
     ·intro e;cases e;have:=(r4 j hj).1;omega
  refine(c15 H30 (x30.at hB1') (x30.at hB3') (by omega) (by omega) (t:=s13) (x:=(o.map (·.2)).getD []) o.isSome hsome (by omega)).use ?_
  rintro _ w36 ⟨rfl,p2,f2,H36,law2,len2,mem2,hp2',hc36⟩
  refine⟨(),rfl,p2,f2,pl,H36,by omega,C30.then hc36 fun j hj h'=>?_,?_,hpls,hplm,.inl ⟨hcyc,rfl,fun k=>?_⟩⟩
  ·rcases h' with h'|h'
   ·exact .inl h'
   ·rcases hp1 with rfl|⟨r,rfl,hr'⟩
    ·exact .inr h'
    ·cases h';omega
  ·refine foot1 (fun e he=>?_) ?_
   ·rcases mem2 e he with ⟨rfl,hs⟩|he
    ·cases o with
     | none=>cases hs
     | some x=>
      have hs13:=hs13 x rfl
      subst hs13
      exact .inl (getM_mem ho)
    ·rcases mem1 e he with ⟨rfl,_⟩|he
     ·exact .inr fun j hj=>by have:=hbk j hj;have:=x15.size;omega
     ·exact .inl he
   ·have zz:=C30.size
    rcases hp2' with rfl|⟨r,rfl,hr'⟩
    ·rcases hp1 with rfl|⟨r,rfl,hr'⟩
     ·exact .inl rfl
     ·exact .inr ⟨r,rfl,by omega⟩
    ·exact .inr ⟨r,rfl,by omega⟩
  ·rw[wl_set law2 k]
   by_cases hk:i=k
   ·subst hk
    rw[if_pos rfl]
    rw[show wl f i=valW (getM f i) from rfl,ho]
    cases o with
    | none=>rfl
    | some x=>rfl
   ·rw[if_neg hk,hwl1,if_neg hk]
 ·refine⟨p1,f1,pl,H24.ext x30,by omega,C30,?_,hpls,hplm,.inr ⟨fun hc=>hin ((hzm i).2 (hTC.2 hc)),rfl,hwl1⟩⟩
  refine foot1 (fun e he=>?_) (hp1.imp id fun⟨r,e,hr'⟩=>⟨r,e,by omega⟩)
  rcases mem1 e he with ⟨rfl,_⟩|he
  ·exact .inr fun j hj=>by have:=hbk j hj;have:=x15.size;omega
  ·exact .inl he
theorem F22_ok(t0:Option Addr)(w:World)(R:RV)(h:IfB t0.isNone (R (Value.slice none 0 0) w) (∃b1:Nat,∃b2:Nat,t0=some ⟨b1,b2,none⟩/\∃(p3:Option Nat),w.cell? ⟨b1,b2+0,none⟩=some (Value.map p3)/\Cx 29 #[Value.map p3] w fun v4 w5=>∃(x6:Nat×Array Value),v4=Value.func (Fn.func x6.1) #[] x6.2/\Qu' 16 #[Value.func (Fn.func x6.1) #[] x6.2] w5 fun s9 w8=>R (Qy s9) w8)):Cw 22 #[Value.pointer t0] w R:=
 ckF Try.func22 .nil h (by kernel_rfl) (by kernel_rfl)
theorem F29_ok(t0:Option Nat)(w:World)(R:RV)(h:AllocP w (Obj.cells #[Value.map t0] 24) fun b1 w2=>R (Value.func (Fn.func 34) #[] #[Value.pointer (some ⟨b1,0,none⟩)]) w2):Cw 29 #[Value.map t0] w R:=
 ckF Try.func29 .nil h (by kernel_rfl) (by kernel_rfl)
def F34(t0:Nat)(t1:Nat)(w:World)(R:RV):Prop:=∃(p1:Option Nat),w.cell? ⟨t1,0,none⟩=some (Value.map p1)/\MapItP w (Value.map p1) fun b2 w3=>Ql (α:=Unit) PUnit.unit w3 fun y4 b6 y7 w8=>NextP w8 b2 (fun w11=>R (Value.tuple #[]) w11) fun(v12 v13:Value) (w14:World)=>EntryP w14 b2 fun(v15 v16:Value)=>YW Try.prog t0 #[v15] w14 fun(t17:Bool) (w18:World)=>IfB (!t17) (R (Value.tuple #[]) w18) (Qn y4 b6 PUnit.unit w18)
theorem F34_ok(t0:Nat)(t1:Nat)(w:World)(R:RV)(h:F34 t0 t1 w R):Cw 34 #[Value.func (Fn.yield t0) #[] #[],Value.pointer (some ⟨t1,0,none⟩)] w R:=
 ckF Try.func34 (nd (.loop [] (rg [3,3,6,13]) .nil)) h (by kernel_rfl) (by kernel_rfl)
def F5j1(t0:Option Addr)(R:RV)(b1:Nat)(b11:Nat)(y13:Nat->Unit->World->Prop)(b15:Nat)(w17:World):Prop:=NextP w17 b11 (fun w20=>R (Value.tuple #[]) w20) fun(v21 v22:Value) (w23:World)=>EntryP w23 b11 fun(v24 v25:Value)=>Qu' 12 #[v25] w23 fun s28 w27=>Qu' 11 #[Qy s28,Value.func (Fn.func 13) #[] #[Value.pointer (some ⟨b1,0,none⟩)]] w27 fun s31 w30=>IfB ((s31.2:Int) == 0) (∃b32:Nat,∃b33:Nat,t0=some ⟨b32,b33,none⟩/\∃(p34:Option Nat),w30.cell? ⟨b32,b33+0,none⟩=some (Value.map p34)/\MapDelP (TypeDesc.int IntKind.i64) w30 p34 v24 fun w35=>Qn y13 b15 PUnit.unit w35) (∃b37:Nat,∃b38:Nat,t0=some ⟨b37,b38,none⟩/\∃(p39:Option Nat),w30.cell? ⟨b37,b38+0,none⟩=some (Value.map p39)/\MapSetP (TypeDesc.int IntKind.i64) w30 (Value.map p39) v24 (Qy s31) fun w40=>Qn y13 b15 PUnit.unit w40)
theorem F5_ok(t0:Option Addr)(t1:Int)(w:World)(R:RV)(h:AllocP w (Obj.cells #[Qz t1] 3) fun b1 w2=>IfB t0.isNone (R (Value.tuple #[]) w2) (∃b3:Nat,∃b4:Nat,t0=some ⟨b3,b4,none⟩/\∃(p5:Option Nat),w2.drew.cell? ⟨b3,b4+0,none⟩=some (Value.map p5)/\Qi w2.drew b1 0 fun n6=>MapDelP (TypeDesc.int IntKind.i64) w2.drew p5 (Qz n6) fun w7=>∃b8:Nat,∃b9:Nat,t0=some ⟨b8,b9,none⟩/\∃(p10:Option Nat),w7.cell? ⟨b8,b9+0,none⟩=some (Value.map p10)/\MapItP w7 (Value.map p10) fun b11 w12=>Ql (α:=Unit) PUnit.unit w12 fun y13 b15 y16 w17=>(F5j1 t0 R b1 b11 y13 b15 w17))):Cw 5 #[Value.pointer t0,Qz t1] w R:=
 ckF Try.func5 (nd (nd (.node (.draw (sts [0,1,2,3,4] (.ac 5 [] .fin .non))) (nd (.loop [] (rg [4,5,18,40]) .nil))))) h (by kernel_rfl) (by kernel_rfl)
theorem F13_ok(t0:Int)(t1:Nat)(w:World)(R:RV)(h:∃n1:Int,w.cell? ⟨t1,0,none⟩=some (Qz n1)/\R (Value.bool (t0 == n1)) w):Cw 13 #[Qz t0,Value.pointer (some ⟨t1,0,none⟩)] w R:=
 ckF Try.func13 .nil h (by kernel_rfl) (by kernel_rfl)
section
variable {β:Type} {enc:β->Value}
def toE(enc:β->Value)(q:Nat×Int×β):MapEntry:={ key:=.int .i64 q.2.1,val:=enc q.2.2,born:=q.1 }
structure MpL(enc:β->Value)(w:World)(r ck:Nat)(L:List (Nat×Int×β)):Prop where
 heap:w.heap[r]? =some (.map (L.map (toE enc)).toArray ck)
 keys:(L.map (·.2.1)).Nodup
 borns:(L.map (·.1)).Nodup
 lt:∀q∈L,q.1<ck
theorem MpL.ch{F:Nat->Prop}{w w':World}{r ck:Nat}{L:List (Nat×Int×β)}(h:MpL enc w r ck L)(hc:Ch F w w')(hF:¬F r):MpL enc w' r ck L:=⟨hc.at h.heap hF,h.keys,h.borns,h.lt⟩
theorem zipL:∀ {es:List MapEntry}{f:List (Int×β)},es.map (fun e=>(e.key,e.val))=f.map (fun p=>(Value.int .i64 p.1,enc p.2))->∃L:List (Nat×Int×β),es=L.map (toE enc)/\L.map (·.2)=f
 | [],[],_=>⟨[],rfl,rfl⟩
 | [],_::_,h=>by simp at h
 | _::_,[],h=>by simp at h
 | e::es,p::f,h=>by
  simp only[List.map_cons,List.cons.injEq,Prod.mk.injEq] at h
  obtain⟨⟨h1,h2⟩,h3⟩:=h
  obtain⟨L,hL,hf⟩:=zipL h3
  refine⟨(e.born,p)::L,?_,by rw[List.map_cons,hf]⟩
  rw[List.map_cons,<-hL]
  congr 1
  unfold toE
  obtain⟨k,v,bn⟩:=e
  simp only at h1 h2
  rw[h1,h2]
theorem Mp.list{w:World}{r:Nat}{f:List (Int×β)}(h:Mp enc w r f):∃ck L,MpL enc w r ck L/\L.map (·.2)=f:=by
 obtain⟨es,ck,hr,h1,h2,h3,h4⟩:=h
 obtain⟨L,hL,rfl⟩:=zipL h1
 refine⟨ck,L,⟨?_,?_,?_,fun q hq=>?_⟩,rfl⟩
 ·rw[hr,<-hL]
 ·rw[List.map_map] at h2;exact h2
 ·rw[hL,List.map_map] at h4;exact h4
 ·exact h3 (toE enc q) (by rw[hL];exact List.mem_map_of_mem hq)
theorem MpL.mp{w:World}{r ck:Nat}{L:List (Nat×Int×β)}(h:MpL enc w r ck L):Mp enc w r (L.map (·.2)):=by
 refine⟨_,ck,h.heap,?_,?_,fun e he=>?_,?_⟩
 ·rw[List.map_map,List.map_map];rfl
 ·rw[List.map_map];exact h.keys
 ·obtain⟨q,hq,rfl⟩:=List.mem_map.1 he
  exact h.lt q hq
 ·rw[List.map_map];exact h.borns
theorem MpL.split{w:World}{r ck:Nat}{L:List (Nat×Int×β)}(h:MpL enc w r ck L){x:Nat×Int×β}(hx:x∈L):∃L1 L2,L=L1++x::L2/\(∀q∈L1,q.2.1≠x.2.1/\q.1≠x.1)/\(∀q∈L2,q.2.1≠x.2.1/\q.1≠x.1)/\
  Instr.findNow (.int .i64) (.int .i64 x.2.1) (L.map (toE enc)) 0=some (some (L1.length,enc x.2.2)):=by
 obtain⟨L1,L2,rfl⟩:=List.append_of_mem hx
 have hk:=h.keys
 have hb:=h.borns
 rw[List.map_append,List.map_cons,List.nodup_append] at hk hb
 have k1:∀q∈L1,q.2.1≠x.2.1:=fun q hq=>hk.2.2 _ (List.mem_map_of_mem hq) _ List.mem_cons_self
 have b1:∀q∈L1,q.1≠x.1:=fun q hq=>hb.2.2 _ (List.mem_map_of_mem hq) _ List.mem_cons_self
 have k2:∀q∈L2,q.2.1≠x.2.1:=fun q hq e=>(List.nodup_cons.1 hk.2.1).1 (List.mem_map.2 ⟨q,hq,e⟩)
 have b2:∀q∈L2,q.1≠x.1:=fun q hq e=>(List.nodup_cons.1 hb.2.1).1 (List.mem_map.2 ⟨q,hq,e⟩)
 refine⟨L1,L2,rfl,fun q hq=>⟨k1 q hq,b1 q hq⟩,fun q hq=>⟨k2 q hq,b2 q hq⟩,?_⟩
 obtain⟨o,ho,hh⟩:=find_is (enc:=enc) (k:=x.2.1) (es:=(L1++x::L2).map (toE enc)) (f:=(L1++x::L2).map (·.2)) 0 (by rw[List.map_map,List.map_map];rfl)
 rw[ho]
 rcases hh with ⟨_,hn⟩|⟨f1,v,f2,hf,rfl,h6⟩
 ·exact absurd rfl (hn x.2 (by simp))
 ·rw[List.map_append,List.map_cons] at hf
  rcases List.append_eq_append_iff.1 hf with ⟨c,hc1,hc2⟩|⟨c,hc1,hc2⟩
  ·cases c with
   | nil=>
    rw[List.append_nil] at hc1
    rw[List.nil_append] at hc2
    have:=(List.cons.inj hc2).1
    rw[hc1,List.length_map,Nat.zero_add,this]
   | cons d c=>
    have:d=x.2:=(List.cons.inj hc2).1.symm
    exact absurd (by rw[this]) (h6 d (by rw[hc1];simp))
  ·cases c with
   | nil=>
    rw[List.append_nil] at hc1
    rw[List.nil_append] at hc2
    have:=(List.cons.inj hc2).1
    rw[<-hc1,List.length_map,Nat.zero_add,<-this]
   | cons d c=>
    have hd:(x.2.1,v)=d:=(List.cons.inj hc2).1
    have hm:d∈L1.map (·.2):=by rw[hc1];simp
    obtain⟨q,hq,e⟩:=List.mem_map.1 hm
    exact absurd (by rw[e,<-hd]) (k1 q hq)
theorem nodup_mid{γ δ:Type}{F:γ->δ}{a b:List γ}{x y:γ}(h:((a++x::b).map F).Nodup)(e:F x=F y):((a++y::b).map F).Nodup:=by
 rw[List.map_append,List.map_cons,<-e,<-List.map_cons,<-List.map_append];exact h
theorem nodup_less{γ δ:Type}{F:γ->δ}{a b:List γ}{x:γ}(h:((a++x::b).map F).Nodup):((a++b).map F).Nodup:=
 h.sublist ((List.Sublist.append_left (List.sublist_cons_self _ _) _).map F)
theorem MpL.set{w:World}{r ck:Nat}{L1 L2:List (Nat×Int×β)}{x:Nat×Int×β}(h:MpL enc w r ck (L1++x::L2))(hf:Instr.findNow (.int .i64) (.int .i64 x.2.1) ((L1++x::L2).map (toE enc)) 0=some (some (L1.length,enc x.2.2))){v:β}{K:World->Prop}
  (hK:∀w',MpL enc w' r ck (L1++(x.1,x.2.1,v)::L2)->Ch (fun j=>j=r) w w'->K w'):MapSetP (.int .i64) w (.map (some r)) (.int .i64 x.2.1) (enc v) K:=by
 refine⟨r,rfl,_,ck,h.heap,_,hf,fun w' hu=>hK w' ⟨?_,nodup_mid h.keys rfl,nodup_mid h.borns rfl,fun q hq=>?_⟩ hu.ch⟩
 ·rw[hu.new]
  refine congrArg (fun a=>some (Obj.map a ck)) (Array.ext' ?_)
  apply List.ext_getElem?
  intro j
  rw[Array.getElem?_toList,Array.getElem?_modify,List.getElem?_toArray]
  show _=(List.map (toE enc) (L1++(x.1,x.2.1,v)::L2))[j]?
  rw[List.map_append,List.map_append,List.map_cons,List.map_cons]
  by_cases hj:L1.length=j
  ·subst hj
   rw[if_pos rfl,List.getElem?_append_right (by simp),List.getElem?_append_right (by simp),List.length_map,Nat.sub_self]
   rfl
  ·rw[if_neg hj]
   rcases Nat.lt_or_ge j L1.length with h'|h'
   ·rw[List.getElem?_append_left (by simpa using h'),List.getElem?_append_left (by simpa using h')]
   ·rw[List.getElem?_append_right (by simpa using h'),List.getElem?_append_right (by simpa using h'),List.length_map]
    obtain⟨d,hd⟩:∃d,j-L1.length=d+1:=⟨j-L1.length-1,by omega⟩
    rw[hd];rfl
 ·rcases List.mem_append.1 hq with h'|h'
  ·exact h.lt q (by simp[h'])
  ·rcases List.mem_cons.1 h' with rfl|h'
   ·exact h.lt x (by simp)
   ·exact h.lt q (by simp[h'])
theorem MpL.del{w:World}{r ck:Nat}{L1 L2:List (Nat×Int×β)}{x:Nat×Int×β}(h:MpL enc w r ck (L1++x::L2))(hf:Instr.findNow (.int .i64) (.int .i64 x.2.1) ((L1++x::L2).map (toE enc)) 0=some (some (L1.length,enc x.2.2))){K:World->Prop}
  (hK:∀w',MpL enc w' r ck (L1++L2)->Ch (fun j=>j=r) w w'->K w'):MapDelP (.int .i64) w (some r) (.int .i64 x.2.1) K:=by
 refine⟨_,ck,h.heap,_,hf,fun w' hu=>hK w' ⟨?_,nodup_less h.keys,nodup_less h.borns,fun q hq=>h.lt q ?_⟩ hu.ch⟩
 ·rw[hu.new]
  refine congrArg (fun a=>some (Obj.map a ck)) (Array.ext' ?_)
  unfold Array.eraseIdxIfInBounds
  rw[dif_pos (by simp),Array.toList_eraseIdx]
  rw[List.map_append,List.map_append,List.map_cons,List.eraseIdx_append_of_length_le (by simp)]
  simp
 ·rcases List.mem_append.1 hq with h'|h'
  ·simp[h']
  ·simp[h']
end
theorem getM_skip{β:Type}{f1 f2:List (Int×β)}{e:Int×β}{k:Int}(h:e.1≠k):getM (f1++e::f2) k=getM (f1++f2) k:=by
 rw[getM_append,getM_append,getM_cons,if_neg h]
theorem wl_skip{f1 f2:List (Int×WE)}{e:Int×WE}{k:Int}(h:e.1≠k):wl (f1++e::f2) k=wl (f1++f2) k:=by unfold wl;rw[getM_skip h]
theorem wl_hit{f1 f2:List (Int×WE)}{e:Int×WE}(h:∀q∈f1,q.1≠e.1):wl (f1++e::f2) e.1=e.2.2:=by
 unfold wl
 rw[getM_append,getM_none h,getM_cons,if_pos rfl]
theorem wl_miss{f:List (Int×WE)}{k:Int}(h:∀q∈f,q.1≠k):wl f k=[]:=by unfold wl;rw[getM_none h]
theorem flen{α:Type}{P P':α->Bool}(h:∀y,P' y=true->P y=true):∀l:List α,(l.filter P').length<=(l.filter P).length
 | []=>Nat.le_refl _
 | x::l=>by
  have ih:=flen h l
  rw[List.filter_cons,List.filter_cons]
  by_cases hp:P' x=true
  ·rw[if_pos hp,if_pos (h x hp),List.length_cons,List.length_cons];omega
  ·rw[if_neg hp]
   split
   ·rw[List.length_cons];omega
   ·exact ih
theorem meas_lt{A B:List Nat}{S:List Nat}{x:Nat}(hx:x∉S):((A++B).filter fun y=> !(S++[x]).contains y).length<((A++x::B).filter fun y=> !S.contains y).length:=by
 have h:∀l:List Nat,(l.filter fun y=> !(S++[x]).contains y).length<=(l.filter fun y=> !S.contains y).length:=flen fun y hy=>by
  simp at hy ⊢
  exact hy.1
 have h1:=h A
 have h2:=h B
 rw[List.filter_append,List.filter_append,List.length_append,List.length_append,List.filter_cons_of_pos (by simpa using hx),List.length_cons]
 omega
theorem c13{w:World}{b:Nat}{T:TypeId}{i:Int}(hb:w.heap[b]? =some (.cells #[iv i] T (0,0)))(n:Int):
  Cw 13 #[iv n,.pointer (some ⟨b,0,none⟩)] w fun v w'=>v=.bool (n == i)/\w=w':=
 F13_ok n b w _ ⟨i,by rw[cell_of hb];rfl,rfl,rfl⟩
structure EntOk(P:Nat->Prop)(W:World)(q:Nat×Int×WE):Prop where
 rd:Rd W q.2.2.1 1 (q.2.2.2.map iv)
 ne:q.2.2.2≠[]
 few:q.2.2.2.length<=1000
 bk:∀j∈blk q.2.2.1,j<W.heap.size/\P j
theorem EntOk.ch{P F:Nat->Prop}{W W':World}{q:Nat×Int×WE}(h:EntOk P W q)(hc:Ch F W W')(hF:∀j,P j->¬F j):EntOk P W' q:=
 ⟨h.rd.ch hc fun j hj=>hF j (h.bk j hj).2,h.ne,h.few,fun j hj=>⟨Nat.lt_of_lt_of_le (h.bk j hj).1 hc.size,(h.bk j hj).2⟩⟩
theorem c5{w:World}{b:Nat}{p:Option Nat}{f:List (Int×WE)}(h:Wt w b p f)(i:Int):
  Cw 5 #[.pointer (some ⟨b,0,none⟩),iv i] w fun v w'=>v=.tuple #[]/\∃f',Wt w' b p f'/\(∀k,wl f' k=if i=k then [] else (wl f k).filter fun n=> !(n == i))/\f'.length<=f.length/\Ch (fun j=>j=b\/p=some j) w w'/\∀j,inWt b p f' j->inWt b p f j\/w.heap.size<=j:=by
 refine F5_ok _ i w _ fun b1 w2 a2=>IfB.no rfl ?_
 have e2:Ext w w2:=a2.ch _
 have p2:=a2.here
 have z2:=a2.size
 have E2:Ext w w2.drew:=e2.trans (extDrew w2)
 have zd:w2.drew.heap.size=w2.heap.size:=rfl
 have h2:=h.ext E2
 have hb1:w2.drew.heap[b1]? =some (.cells #[iv i] _ (0,0)):=Ext.at (extDrew w2) a2.new
 obtain⟨T,hT2⟩:=h2.box
 have hpb:p≠some b:=notMap (j:=0) hT2 h2.map
 have hbl:b<w.heap.size:=h.lt (.inl rfl)
 have hpl:∀r,p=some r->r<w.heap.size:=h.map.lt
 refine⟨b,0,rfl,p,h2.cell,i,by rw[cell_of hb1];rfl,h2.map.del fun f1 w7 hf1 hsub hlen hM7 hC7=>?_⟩
 have hT7:=hC7.at hT2 hpb
 have hb17:=hC7.at hb1 fun e=>by have:=hpl _ e;omega
 have z7:=hC7.size
 refine⟨b,0,rfl,p,by rw[cell_of hT7];rfl,?_⟩
 have hwf1:∀k,wl f1 k=if i=k then [] else wl f k:=fun k=>by
  unfold wl
  rw[hf1]
  by_cases hk:i=k
  ·rw[if_pos hk,if_pos hk]
  ·rw[if_neg hk,if_neg hk]
 cases p with
 | none=>
  have hf:f=[]:=h.map
  have:f1=[]:=hM7
  subst hf this
  refine .inl ⟨rfl,fun b11 w12 a12=>⟨fun _ _ W=>W=w12,⟨0,rfl⟩,?_⟩⟩
  rintro _ _ W _ rfl
  have e12:Ext w7 W:=a12.ch _
  refine .inl ⟨0,#[],0,a12.new,rfl,[],⟨⟨_,e12.at hT7⟩,rfl,fun e he=>(by cases he),Nat.zero_le _⟩,fun k=>?_,Nat.le_refl _,((E2.mono fun _ _ h=>h.elim).trans (hC7.mono fun j _ h=>.inr h)).trans (e12.mono fun _ _ h=>h.elim),fun j hj=>.inl hj⟩
  have h0:wl [] k=[]:=rfl
  rw[h0];simp
 | some r=>
  have hM7:Mp encW w7 r f1:=hM7
  have hrl:r<w.heap.size:=hpl r rfl
  have hrb:r≠b:=fun e=>hpb (by rw[e])
  obtain⟨ck,L0,hL0,rfl⟩:=hM7.list
  have hll0:L0.length<=f.length:=by rw[List.length_map] at hlen;exact hlen
  refine .inr ⟨r,_,ck,rfl,hL0.heap,fun b11 w12 a12=>?_⟩
  have e12:Ext w7 w12:=a12.ch _
  have p12:=a12.here
  have z12:=a12.size
  let P:Nat->Prop:=fun j=>j≠b/\j≠r/\j≠b11/\(inWt b (some r) f j\/w.heap.size<=j)
  have C12:Ch (fun j=>j=r) w w12:=((E2.mono fun _ _ h=>h.elim).trans (hC7.mono fun j _ h=>(Option.some.inj h).symm)).trans (e12.mono fun _ _ h=>h.elim)
  refine⟨fun n _ W=>∃(L:List (Nat×Int×WE))(S:List Nat)(Tk:List Int),n=((L.map (·.1)).filter fun x=> !S.contains x).length/\W.heap[b11]? =some (.mapIter (some r) ck S.toArray ck)/\MpL encW W r ck L/\(∀q∈L,EntOk P W q)/\(∀q∈L,q.1∈S↔q.2.1∈Tk)/\
   (∀k,wl (L.map (·.2)) k=if k∈Tk then (wl (L0.map (·.2)) k).filter fun n=> !(n == i) else wl (L0.map (·.2)) k)/\L.length<=L0.length/\Ch (fun j=>j=r\/j=b11) w12 W,⟨_,L0,[],[],rfl,a12.new,hL0.ch e12 id,fun q hq=>?_,fun q hq=>by simp,fun k=>by simp,Nat.le_refl _,Ch.refl _ _⟩,?_⟩
  ·obtain⟨g1,g2,g3,g4⟩:=h.rd q.2 (hsub _ (List.mem_map_of_mem hq))
   exact⟨g1.ch C12 fun j hj e=>(g4 j hj).2.2 (by rw[e]),g2,g3,fun j hj=>⟨by have:=(g4 j hj).1;omega,(g4 j hj).2.1,fun e=>(g4 j hj).2.2 (by rw[e]),by have:=(g4 j hj).1;omega,.inl (.inr (.inr ⟨q.2,hsub _ (List.mem_map_of_mem hq),hj⟩))⟩⟩
  rintro n _ W g ⟨L,S,Tk,rfl,hit,hL,hE,hST,hwl,hll,hC⟩
  have zW:=hC.size
  have hb1W:W.heap[b1]? =some (.cells #[iv i] _ (0,0)):=hC.at (e12.at hb17) fun e=>by omega
  have hTW:W.heap[b]? =some (.cells #[.map (some r)] T (0,0)):=hC.at (e12.at hT7) fun e=>by omega
  unfold F5j1
  refine .inr ⟨r,ck,S.toArray,ck,_,ck,hit,hL.heap,?_,fun hall d=>?_,fun x hx hns d w' hu=>?_⟩
  ·cases L with
   | nil=>exact .inr (.inl rfl)
   | cons q L=>exact .inr (.inr ⟨toE encW q,by simp,hL.lt q (by simp)⟩)
  ·have ex:Ext W { W with drawn:=d }:=Ch.drawn _ W d
   have hin:∀q∈L,q.2.1∈Tk:=fun q hq=>(hST q hq).1 (by
    by_cases hs:q.1∈S
    ·exact hs
    ·have:=hall (toE encW q) (List.mem_toArray.2 (List.mem_map_of_mem hq)) (by simpa [toE] using hs)
     have:=hL.lt q hq
     exact absurd (show ck<=q.1 from ‹_›) (by omega))
   refine⟨rfl,L.map (·.2),⟨⟨T,hTW⟩,(show MpO encW { W with drawn:=d } (some r) (L.map fun q=>(q.2:Int×WE)) from (hL.ch ex id).mp),fun e he=>?_,by rw[List.length_map];have:=h.few;omega⟩,fun k=>?_,by rw[List.length_map];omega,(((C12.mono fun j _ h=>.inr (by rw[h])).then hC fun j hj h=>?_)).trans (ex.mono fun _ _ h=>h.elim),fun j hj=>?_⟩
   ·obtain⟨q,hq,rfl⟩:=List.mem_map.1 he
    have hq:=hE q hq
    exact⟨hq.rd.ext ex,hq.ne,hq.few,fun j hj=>⟨(hq.bk j hj).1,(hq.bk j hj).2.1,fun e=>(hq.bk j hj).2.2.1 (Option.some.inj e).symm⟩⟩
   ·rw[hwl]
    by_cases hk:k∈Tk
    ·rw[if_pos hk,hwf1]
     by_cases hik:i=k
     ·rw[if_pos hik,if_pos hik];rfl
     ·rw[if_neg hik,if_neg hik]
    ·have h0:wl (L.map (·.2)) k=[]:=wl_miss fun e he=>by
      obtain⟨q,hq,rfl⟩:=List.mem_map.1 he
      exact fun e=>hk (e ▸ hin q hq)
     rw[hwl,if_neg hk] at h0
     rw[if_neg hk,h0]
     rw[hwf1] at h0
     by_cases hik:i=k
     ·rw[if_pos hik]
     ·rw[if_neg hik] at h0
      rw[if_neg hik,h0];rfl
   ·rcases h with h|h
    ·exact .inr (by rw[h])
    ·omega
   ·rcases hj with rfl|hj|⟨e,he,hj⟩
    ·exact .inl (.inl rfl)
    ·exact .inl (.inr (.inl hj))
    ·obtain⟨q,hq,rfl⟩:=List.mem_map.1 he
     exact((hE q hq).bk j hj).2.2.2.2
  ·obtain⟨q,hq,rfl⟩:∃q∈L,x=toE encW q:=by
    have:x∈L.map (toE encW):=by simpa using hx
    obtain⟨q,hq,e⟩:=List.mem_map.1 this
    exact⟨q,hq,e.symm⟩
   have hqS:q.1∉S:=by simpa [toE] using hns
   have hqT:q.2.1∉Tk:=fun h=>hqS ((hST q hq).2 h)
   have cw:Ch (fun j=>j=b11) W w':=(Ch.drawn _ W d).trans hu.ch
   have hb11r:r≠b11:=by omega
   have hL':=hL.ch cw hb11r
   have hq':=(hE q hq).ch cw fun j hj=>hj.2.2.1
   have hfb:((L.map (toE encW)).map (·.born)).Nodup:=by rw[List.map_map];exact hL.borns
   refine⟨r,ck,_,ck,_,toE encW q,hu.new,hL'.heap,by simp,by rw[<-Array.find?_toList];exact find_born hfb (List.mem_map_of_mem hq),?_⟩
   refine(c12 hq'.rd (by have:=hq'.few;omega)).use ?_
   rintro _ w27 ⟨s28,rfl,ho28,e27,hb28⟩
   have hb127:w27.heap[b1]? =some (.cells #[iv i] _ (0,0)):=e27.at (cw.at hb1W (by omega))
   have z27:=e27.size
   have zw':=cw.size
   refine⟨s28,rfl,(c11 (t1:=(13,#[.pointer (some ⟨b1,0,none⟩)])) (q:=fun n=>n == i) ho28 (by have:=hq'.few;omega) fun n V _ hCV R' hR=>(c13 (hCV.at hb127 fun hj=>by have:=hb28 _ hj;omega) n).use fun v w' ⟨hv,hw⟩=>by subst hv;subst hw;exact hR _ (Ch.refl _ _)).use ?_⟩
   rintro _ w30 ⟨s31,rfl,ho31,hp31,hC30⟩
   have E30:Ext w' w30:=e27.chN hC30 hb28
   have z30:=E30.size
   have hn31:=rdI ho31.rd
   have hb31:∀j∈blk s31,w'.heap.size<=j:=fun j hj=>hb28 j (by
    unfold blk at hj ⊢
    rw[hp31] at hj;exact hj)
   have hT30:w30.heap[b]? =some (.cells #[.map (some r)] T (0,0)):=E30.at (cw.at hTW (by omega))
   have hc30:w30.cell? ⟨b,0+0,none⟩=some (.map (some r)):=by rw[cell_of hT30];rfl
   have hit30:w30.heap[b11]? =some (.mapIter (some r) ck (S++[q.1]).toArray ck):=by
    rw[E30.at hu.new];simp[toE]
   have hL30:=hL'.ch E30 id
   obtain⟨L1,L2,rfl,hk1,hk2,hfn⟩:=hL30.split hq
   have hE30:∀y∈L1++L2,EntOk P w30 y:=fun y hy=>((hE y (by
    rcases List.mem_append.1 hy with h|h
    ·simp[h]
    ·simp[h])).ch cw fun j hj=>hj.2.2.1).ch E30 fun _ _ h=>h
   have hne:∀y∈L1++L2,y.2.1≠q.2.1/\y.1≠q.1:=fun y hy=>(List.mem_append.1 hy).elim (hk1 y) (hk2 y)
   have hwq:wl (L0.map (·.2)) q.2.1=q.2.2.2:=by
    have:=hwl q.2.1
    rw[if_neg hqT,List.map_append,List.map_cons,wl_hit fun e he=>by
     obtain⟨y,hy,rfl⟩:=List.mem_map.1 he
     exact(hk1 y hy).1] at this
    exact this.symm
   have hST2:∀y∈L1++L2,y.1∈S++[q.1]↔y.2.1∈q.2.1::Tk:=fun y hy=>by
    have h1:=hne y hy
    have h2:=hST y (by
     rcases List.mem_append.1 hy with h|h
     ·simp[h]
     ·simp[h])
    simp[h1.1,h1.2,h2]
   have hwo:∀k,q.2.1≠k->wl ((L1++L2).map (·.2)) k=if k∈q.2.1::Tk then (wl (L0.map (·.2)) k).filter fun n=> !(n == i) else wl (L0.map (·.2)) k:=fun k hk=>by
    have:=hwl k
    rw[List.map_append,List.map_cons,wl_skip hk] at this
    rw[List.map_append,this]
    by_cases hkt:k∈Tk
    ·rw[if_pos hkt,if_pos (by simp[hkt])]
    ·rw[if_neg hkt,if_neg (by simp[hkt,Ne.symm hk])]
   have hms:=meas_lt (A:=L1.map (·.1)) (B:=L2.map (·.1)) hqS
   have C30:Ch (fun j=>j=r\/j=b11) w12 w30:=(hC.trans (cw.mono fun j _ h=>.inr h)).trans (E30.mono fun _ _ h=>h.elim)
   rw[List.length_append,List.length_cons] at hll
   refine⟨s31,rfl,IfB.intro (fun h0=>⟨b,0,rfl,some r,hc30,hL30.del hfn fun w35 hL35 hC35=>⟨(by trivial),((((L1++L2).map (·.1)).filter fun x=> !(S++[q.1]).contains x).length),?_,L1++L2,S++[q.1],q.2.1::Tk,rfl,hC35.at hit30 (Ne.symm hb11r),hL35,fun y hy=>(hE30 y hy).ch hC35 fun j hj=>hj.2.1,hST2,fun k=>?_,by rw[List.length_append];omega,C30.trans (hC35.mono fun j _ h=>.inl h)⟩⟩)
    fun h0=>⟨b,0,rfl,some r,hc30,hL30.set (v:=(s31,q.2.2.2.filter fun n=> !(n == i))) hfn fun w40 hL40 hC40=>⟨(by trivial),((((L1++(q.1,q.2.1,(s31,q.2.2.2.filter fun n=> !(n == i)))::L2).map (·.1)).filter fun x=> !(S++[q.1]).contains x).length),?_,L1++(q.1,q.2.1,(s31,q.2.2.2.filter fun n=> !(n == i)))::L2,S++[q.1],q.2.1::Tk,rfl,hC40.at hit30 (Ne.symm hb11r),hL40,fun y hy=>?_,fun y hy=>?_,fun k=>?_,by rw[List.length_append,List.length_cons];omega,C30.trans (hC40.mono fun j _ h=>.inl h)⟩⟩⟩
   ·rw[List.map_append,List.map_append,List.map_cons];exact hms
   ·by_cases hk:q.2.1=k
    ·subst hk
     have hz:(q.2.2.2.filter fun n=> !(n == i))=[]:=by
      have:s31.n=0:=by simpa using h0
      rw[hn31] at this
      exact List.length_eq_zero_iff.1 this
     rw[if_pos (by simp),hwq,hz]
     exact wl_miss fun e he=>by
      obtain⟨y,hy,rfl⟩:=List.mem_map.1 he
      exact(hne y hy).1
    ·exact hwo k hk
   ·have:((L1++(q.1,q.2.1,(s31,q.2.2.2.filter fun n=> !(n == i)))::L2).map (·.1)).filter (fun x=> !(S++[q.1]).contains x)=((L1++L2).map (·.1)).filter fun x=> !(S++[q.1]).contains x:=by
     rw[List.map_append,List.map_cons,List.map_append,List.filter_append,List.filter_append,List.filter_cons_of_neg (by simp)]
    rw[this,List.map_append,List.map_append,List.map_cons];exact hms
   ·have old:y∈L1++L2->EntOk P w40 y:=fun h=>(hE30 y h).ch hC40 fun j hj=>hj.2.1
    rcases List.mem_append.1 hy with h'|h'
    ·exact old (List.mem_append_left _ h')
    ·rcases List.mem_cons.1 h' with rfl|h'
     ·refine⟨ho31.rd.ch hC40 fun j hj e=>by have:=hb31 j hj;omega,fun hz=>?_,Nat.le_trans (List.length_filter_le _ _) hq'.few,fun j hj=>⟨by have:=ho31.lt j hj;have:=hC40.size;omega,by have:=hb31 j hj;omega,by have:=hb31 j hj;omega,by have:=hb31 j hj;omega,.inr (by have:=hb31 j hj;omega)⟩⟩
      have hz:(q.2.2.2.filter fun n=> !(n == i))=[]:=hz
      rw[hz] at hn31
      rw[show s31.2=0 from hn31] at h0
      simp at h0
     ·exact old (List.mem_append_right _ h')
   ·rcases List.mem_append.1 hy with h'|h'
    ·exact hST2 y (List.mem_append_left _ h')
    ·rcases List.mem_cons.1 h' with rfl|h'
     ·simp
     ·exact hST2 y (List.mem_append_right _ h')
   ·by_cases hk:q.2.1=k
    ·subst hk
     rw[if_pos (by simp),hwq,List.map_append,List.map_cons]
     exact wl_hit (e:=(q.2.1,(s31,q.2.2.2.filter fun n=> !(n == i)))) fun e he=>by
      obtain⟨y,hy,rfl⟩:=List.mem_map.1 he
      exact(hk1 y hy).1
    ·rw[<-hwo k hk,List.map_append,List.map_cons,List.map_append]
     exact wl_skip (e:=(q.2.1,(s31,q.2.2.2.filter fun n=> !(n == i)))) hk
theorem single{pl:List Int}{a:Int}(hs:pl.Pairwise (· < ·))(hm:∀k,k∈pl↔k=a):pl=[a]:=by
 match pl,hs,hm with
 | [],_,hm=>exact absurd ((hm a).2 rfl) (by simp)
 | [x],_,hm=>rw[(hm x).1 (by simp)]
 | x::y::l,hs,hm=>
  have hx:=(hm x).1 (by simp)
  have hy:=(hm y).1 (by simp)
  have:=(List.pairwise_cons.1 hs).1 y (by simp)
  omega
theorem Wt.new{w w':World}{b:Nat}{T:TypeId}(h:IsAlloc w (.cells #[.map none] T (0,0)) b w'):Wt w' b none []:=
 ⟨⟨T,h.new⟩,rfl,by simp,by simp⟩
theorem wl_nil(k:Int):wl [] k=[]:=rfl
theorem c4(w:World):Cw 4 #[] w fun v w'=>v=.bool true/\Ext w w':=by
 refine F4_ok w _ ?_
 intro b1 w2 a2
 refine⟨by decide,fun b3 w4 a4=>?_⟩
 have e2:Ext w w2:=a2.ch _
 have e4:Ext w2 w4:=a4.ch _
 have p2:=a2.here;have p4:=a4.here;have z2:=a2.size
 have H:=(Wt.new a2).ext e4
 have hr:Rd w4 ⟨some ⟨b3,0,none⟩,1,1⟩ 1 (([2]:List Int).map iv):=(OwS.new (n:=1) (sz:=1) a4 rfl).rd
 refine(c8 H 1 hr (by simp) (by simp)).use ?_
 rintro v w6 ⟨p,f,pl,H6,l6,hc6,hf6,hs,hm,hv⟩
 have hpl:pl=[2]:=single hs fun k=>by rw[hm];simp
 subst hpl
 have no:¬TC (EnS [] 1 [2]) 1 1:=fun h=>by
  obtain⟨c,h1,h2⟩:=h.first
  unfold EnS at h1
  rw[if_pos rfl] at h1
  have:c=2:=by simpa using h1
  subst this
  rcases h2 with h2|h2
  ·cases h2
  ·obtain⟨d,h3,_⟩:=h2.first
   unfold EnS at h3
   rw[if_neg (by decide),wl_nil] at h3
   cases h3
 rcases hv with ⟨h,_⟩|⟨_,rfl,hw⟩
 ·exact absurd h no
 have C6:Ch (fun j=>w.heap.size<=j) w w6:=((e2.trans e4).mono fun _ _ h=>h.elim).then hc6 fun j _ h=>by
  rcases h with h|h
  ·omega
  ·cases h
 refine⟨true,rfl,IfB.yes rfl ⟨by decide,fun b8 w9 a9=>?_⟩⟩
 have e9:Ext w6 w9:=a9.ch _
 have hr9:Rd w9 ⟨some ⟨b8,0,none⟩,1,1⟩ 1 (([1]:List Int).map iv):=(OwS.new (n:=1) (sz:=1) a9 rfl).rd
 refine(c8 (H6.ext e9) 2 hr9 (by simp) (by simp at l6;omega)).use ?_
 rintro v w11 ⟨p',f',pl,H11,l11,hc11,hf11,hs',hm',hv'⟩
 have hpl:pl=[1]:=single hs' fun k=>by rw[hm'];simp
 subst hpl
 have yes:TC (EnS f 2 [1]) 2 2:=.more (.one (b:=1) (by unfold EnS;simp)) (by unfold EnS;rw[if_neg (by decide),hw,if_pos rfl];simp)
 obtain⟨rfl,hw'⟩:v=.bool false/\∀k,wl f' k=wl f k:=by
  rcases hv' with ⟨_,h1,h2⟩|⟨h,_⟩
  ·exact⟨h1,h2⟩
  ·exact absurd yes h
 refine⟨false,rfl,IfB.yes rfl ((c10 H11 1).use ?_)⟩
 rintro _ w14 ⟨t,rfl,ho,e14,_⟩
 have hn:=owsI ho
 rw[hw',hw,if_pos rfl] at hn
 refine⟨t,rfl,?_,?_⟩
 ·rw[show t.2=t.n from rfl,hn];rfl
 ·have:=((C6.then e9 fun _ _ h=>h.elim).then hc11 fun j hj h=>by
   rcases h with h|h
   ·omega
   ·rcases hf6 j (.inr (.inl h)) with h'|h'
    ·rcases h' with h'|h'|⟨e,he,_⟩
     ·omega
     ·cases h'
     ·cases he
    ·have:=(e2.trans e4).size;omega).then e14 fun _ _ h=>h.elim
  exact this.mono fun j hj h=>by omega
def F21j1(t0:Sl)(t1:Sl)(R:RV)(y1:Nat->Int->World->Prop)(b3:Nat)(n4:Int)(w5:World):Prop:=IfB (decide (n4<(t0.n:Int))) (Qx t0.1 n4 (t0.2:Int) fun b8 b9=>Qi w5.drew b8 (b9+n4.toNat) fun n10=>Qx t1.1 n4 (t1.2:Int) fun b11 b12=>Qi w5.drew b11 (b12+n4.toNat) fun n13=>IfB (n10 != n13) (R (Value.bool false) w5.drew) (Qn y1 b3 (IntKind.i64.wrap (n4+1)) w5.drew)) (R (Value.bool true) w5)
theorem F21_ok(t0:Sl)(t1:Sl)(w:World)(R:RV)(h:IfB ((t0.2:Int) != (t1.2:Int)) (R (Value.bool false) w) (Ql (α:=Int) 0 w fun y1 b3 n4 w5=>(F21j1 t0 t1 R y1 b3 n4 w5))):Cw 21 #[Qy t0,Qy t1] w R:=
 ckF Try.func21 (nd (nd (.node (nd (.loop [(5,oi)] (rg [4,5,11,25]) (nd (.node (.node (.draw (sts [0,1,2,3,4,5,6,7,8] .fin)) .nil) .nil)))) .nil))) h (by kernel_rfl) (by kernel_rfl)
theorem c21{w:World}{s t:Sl}{xs ys:List Int}(hs:Rd w s 1 (xs.map iv))(ht:Rd w t 1 (ys.map iv))(hl:xs.length<=1000000):
  Cw 21 #[slV s,slV t] w fun v w'=>v=.bool (decide (xs=ys))/\Ext w w':=by
 have hsn:=rdI hs
 have htn:=rdI ht
 refine F21_ok s t w _ (IfB.intro (fun hne=>⟨?_,Ch.refl _ _⟩) fun he=>?_)
 ·have:s.n≠t.n:=fun e=>by simp[e] at hne
  rw[decide_eq_false (fun e=>this (by rw[hsn,htn,e]))]
 ·have he:s.n=t.n:=by simp at he;omega
  refine⟨fun m x W=>∃i:Nat,i<=xs.length/\m+i=xs.length/\x=(i:Int)/\Ext w W/\xs.take i=ys.take i,⟨xs.length,0,Nat.zero_le _,rfl,rfl,Ch.refl _ _,rfl⟩,?_⟩
  rintro m _ W g ⟨i,hi,hmi,rfl,hE,hsame⟩
  unfold F21j1
  refine IfB.dec (fun hlt=>?_) fun hge=>?_
  ·have hi':i<xs.length:=by omega
   have hx:xs[i]? =some xs[i]:=List.getElem?_eq_getElem hi'
   have hy:ys[i]? =some (ys[i]'(by omega)):=List.getElem?_eq_getElem (by omega)
   generalize xs[i]=x at hx
   generalize ys[i]'_=y at hy
   have ed:=hE.trans (extDrew W)
   obtain⟨b1,o1,hp1,hc1⟩:=rdI_get (hs.ext ed) hx
   obtain⟨b2,o2,hp2,hc2⟩:=rdI_get (ht.ext ed) hy
   refine⟨b1,o1,hp1,⟨by omega,hlt⟩,x,by rw[Int.toNat_natCast];exact hc1,b2,o2,hp2,⟨by omega,by omega⟩,y,by rw[Int.toNat_natCast];exact hc2,IfB.intro (fun hne=>⟨?_,ed⟩) fun hxy=>⟨rfl,m-1,by omega,i+1,hi',by omega,by rw[wrap_of (by omega) (by omega)];rfl,ed,?_⟩⟩
   ·have hne:x≠y:=by simpa using hne
    rw[decide_eq_false (fun e=>hne (by rw[e,hy] at hx;exact(Option.some.inj hx).symm))]
   ·have hxy:x=y:=by simpa using hxy
    rw[take_succ_get hx,take_succ_get hy,hsame,hxy]
  ·have hi':i=xs.length:=by omega
   subst hi'
   rw[List.take_length,List.take_of_length_le (by omega)] at hsame
   exact⟨by rw[decide_eq_true hsame],hE⟩
section
variable {w:World} {b:Nat} {p:Option Nat} {f:List (Int×WE)}
theorem F34_eq(l b:Nat)(W:World)(R:RV):F34 l b W R=KeysF Try.prog l b W R:=rfl
theorem it34{b1:Nat}{mo:MO}{ks:List Int}(hI:KeysI b1 mo w)(hks:KeysE mo ks)(hl:ks.length<=1000000):IntIt 34 #[.pointer (some ⟨b1,0,none⟩)] w fun xs=>xs.Perm ks:=
 keysIt en34 (fun l W R h=>F34_ok l b1 W R (by rw[F34_eq];exact h)) hI hks hl
theorem c22(h:Wt w b p f):Cw 22 #[.pointer (some ⟨b,0,none⟩)] w fun v w'=>∃t,∃xs:List Int,v=slV t/\xs.Perm (f.map (·.1))/\xs.Pairwise (· <=·)/\OwS w' t 1 (xs.map iv)/\Ext w w'/\∀j∈blk t,w.heap.size<=j:=by
 have hf:=h.few
 obtain⟨mo,hm,hks,hmo⟩:=h.map.keys
 refine F22_ok _ w _ (IfB.no rfl ⟨b,0,rfl,p,h.cell,CW.use (F29_ok p w (fun v w'=>∃b1 T,v=.func (.func 34) #[] #[.pointer (some ⟨b1,0,none⟩)]/\IsAlloc w (.cells #[.map p] T (0,0)) b1 w') fun b1 w' a=>⟨b1,_,rfl,a⟩) ?_⟩)
 rintro _ w5 ⟨b1,T,rfl,a5⟩
 have e5:Ext w w5:=a5.ch _
 have z5:=a5.size
 have hKI:KeysI b1 mo w5:=⟨⟨T,by rw[hm];exact a5.new⟩,by
  match mo,hmo with
  | none,_=>trivial
  | some (r,es,ck),hmo=>exact e5.at (hmo r es ck rfl)⟩
 refine⟨(34,_),rfl,(sorted_of (it34 hKI hks (by rw[List.length_map];omega))).use ?_⟩
 rintro _ w8 ⟨t,xs,ys,rfl,hp,hp2,_,hs,ho,e8,hb⟩
 exact⟨t,rfl,t,xs,rfl,hp2.trans hp,hs,ho,e5.trans e8,fun j hj=>by have:=hb j hj;omega⟩
end
theorem key_wl{w:World}{b:Nat}{p:Option Nat}{f:List (Int×WE)}(h:Wt w b p f){k:Int}:getM f k≠none↔wl f k≠[]:=by
 unfold wl
 cases hg:getM f k with
 | none=>simp
 | some x=>simpa using (h.rd _ (getM_mem hg)).2.1
theorem sorted_ext{xs ys:List Int}(hx:xs.Pairwise (· < ·))(hy:ys.Pairwise (· < ·))(h:∀k,k∈xs↔k∈ys):xs=ys:=by
 induction xs generalizing ys with
 | nil=>
  cases ys with
  | nil=>rfl
  | cons y ys=>exact absurd ((h y).2 (by simp)) (by simp)
 | cons x xs ih=>
  cases ys with
  | nil=>exact absurd ((h x).1 (by simp)) (by simp)
  | cons y ys=>
   rw[List.pairwise_cons] at hx hy
   have e:x=y:=by
    rcases List.mem_cons.1 ((h x).1 (by simp)) with e|e
    ·exact e
    ·rcases List.mem_cons.1 ((h y).2 (by simp)) with e'|e'
     ·exact e'.symm
     ·have:=hy.1 x e;have:=hx.1 y e';omega
   subst e
   rw[ih hx.2 hy.2 fun k=>?_]
   have hk:=h k
   rw[List.mem_cons,List.mem_cons] at hk
   constructor
   ·intro m
    rcases hk.1 (.inr m) with e|e
    ·subst e;exact absurd (hx.1 k m) (by omega)
    ·exact e
   ·intro m
    rcases hk.2 (.inr m) with e|e
    ·subst e;exact absurd (hy.1 k m) (by omega)
    ·exact e
structure Acc(B:Nat)(W:World)(s:Sl)(xs:List Int)(n:Nat)(Q:Int->Prop):Prop where
 own:OwS W s 1 (xs.map iv)
 srt:xs.Pairwise (· < ·)
 mem:∀z,z∈xs↔0<=z/\z<(n:Int)/\Q z
 new:∀j∈blk s,B<=j
 len:xs.length<=n
section
variable {B:Nat} {W:World} {s:Sl} {xs:List Int} {n:Nat} {Q:Int->Prop}
theorem Acc.nil:Acc B W ⟨none,0,0⟩ [] 0 Q:=⟨.nil _ _,.nil,fun z=>by simp;omega,by simp[blk],Nat.le_refl _⟩
theorem Acc.ch{F:Nat->Prop}{W':World}(h:Acc B W s xs n Q)(hc:Ch F W W')(hF:∀j∈blk s,¬F j):Acc B W' s xs n Q:=⟨h.own.ch hc hF,h.srt,h.mem,h.new,h.len⟩
theorem Acc.ext{W':World}(h:Acc B W s xs n Q)(e:Ext W W'):Acc B W' s xs n Q:=h.ch e fun _ _=>id
theorem Acc.skip(h:Acc B W s xs n Q)(hq:¬Q (n:Int)):Acc B W s xs (n+1) Q:=⟨h.own,h.srt,fun z=>(h.mem z).trans ⟨fun⟨h1,h2,h3⟩=>⟨h1,by omega,h3⟩,fun⟨h1,h2,h3⟩=>⟨h1,by
 by_cases e:z=(n:Int)
 ·subst e;exact absurd h3 hq
 ·omega,h3⟩⟩,h.new,by have:=h.len;omega⟩
theorem Acc.push(h:Acc B W s xs n Q)(hn:n<=1000)(hq:Q (n:Int))(hB:B<=W.heap.size){K:Sl->World->Prop}(hK:∀s' W',Acc B W' s' (xs++[(n:Int)]) (n+1) Q->Ch (fun j=>j∈blk s) W W'->(∀j∈blk s',j∈blk s\/W.heap.size<=j)->K s' W'):
  1*1<=16777216/\AllocP W (Obj.cells #[Value.int IntKind.i64 (n:Int)] 3) fun b27 w28=>∃l29:List Value,ReadC w28 (some ⟨b27,0,none⟩) (1*1) l29/\AppendP tt3 3 w28 s.1 s.2 s.3 1 l29 K:=by
 have hsn:=rdI h.own.rd
 have hl:=h.len
 refine⟨by decide,fun b27 w28 a28=>(h.own.ext (a28.ch _)).lit (new:=[iv (n:Int)]) a28.new rfl (by intro v hv;rw[List.mem_singleton.1 hv];rfl) rfl rfl (by omega) (by decide) fun s' w' ho _ hC hb=>hK s' w' ⟨?_,?_,fun z=>?_,fun j hj=>?_,?_⟩ ((Ch.trans ((a28.ch (F:=fun _=>False)).mono fun _ _ h=>h.elim) hC)) fun j hj=>(hb j hj).imp id fun h=>by have:=a28.size;omega⟩
 ·rw[List.map_append];exact ho
 ·rw[List.pairwise_append]
  exact⟨h.srt,by simp,fun a ha c hc=>by rw[List.mem_singleton.1 hc];exact((h.mem a).1 ha).2.1⟩
 ·rw[List.mem_append,List.mem_singleton,h.mem]
  constructor
  ·rintro(⟨h1,h2,h3⟩|rfl)
   ·exact⟨h1,by omega,h3⟩
   ·exact⟨by omega,by omega,hq⟩
  ·rintro⟨h1,h2,h3⟩
   by_cases e:z=(n:Int)
   ·exact .inr e
   ·exact .inl ⟨h1,by omega,h3⟩
 ·rcases hb j hj with h'|h'
  ·exact h.new j h'
  ·have:=a28.size;omega
 ·rw[List.length_append,List.length_singleton];omega
end
structure SameW(f:List (Int×WE))(V:List Bool):Prop where
 len:V.length=144
 rel:∀a c:Nat,tb2 V a c=true↔(c:Int)∈wl f (a:Int)
 rng:∀a c:Int,c∈wl f a->(0<=a/\a<12)/\0<=c/\c<12
 srt:∀a,(wl f a).Pairwise (· < ·)
theorem SameW.en{f:List (Int×WE)}{V:List Bool}(h:SameW f V){a c:Int}(e:En f a c):∃i k:Nat,a=(i:Int)/\c=(k:Int)/\i<12/\k<12/\Ev V i k:=by
 obtain⟨⟨h1,h2⟩,h3,h4⟩:=h.rng a c e
 refine⟨a.toNat,c.toNat,by omega,by omega,by omega,by omega,(h.rel _ _).2 ?_⟩
 rw[show ((a.toNat:Nat):Int)=a by omega,show ((c.toNat:Nat):Int)=c by omega];exact e
theorem SameW.tc{f:List (Int×WE)}{V:List Bool}(h:SameW f V){a c:Int}(t:TC (En f) a c):∃i k:Nat,a=(i:Int)/\c=(k:Int)/\i<12/\k<12/\TC (Ev V) i k:=by
 induction t with
 | one e=>
  obtain⟨i,k,h1,h2,h3,h4,h5⟩:=h.en e
  exact⟨i,k,h1,h2,h3,h4,.one h5⟩
 | more _ e ih=>
  obtain⟨i,k,h1,h2,h3,h4,h5⟩:=ih
  obtain⟨k',m,g1,g2,g3,g4,g5⟩:=h.en e
  have:k=k':=Int.ofNat.inj (h2.symm.trans g1)
  subst this
  exact⟨i,m,h1,g2,h3,g4,.more h5 g5⟩
theorem SameW.ev{f:List (Int×WE)}{V:List Bool}(h:SameW f V){i k:Nat}(t:TC (Ev V) i k):TC (En f) (i:Int) (k:Int):=by
 induction t with
 | one e=>exact .one ((h.rel _ _).1 e)
 | more _ e ih=>exact .more ih ((h.rel _ _).1 e)
theorem c9{w:World}{b:Nat}{p:Option Nat}{f:List (Int×WE)}{V:List Bool}(h:Wt w b p f)(hS:SameW f V):
  Cw 9 #[.pointer (some ⟨b,0,none⟩),tV V] w fun v w'=>v=.bool true/\Ext w w':=by
 have hb:∀ {n:Nat},n<12->(0:Int)<=(n:Int)/\(n:Int)<((12:Nat):Int):=fun h=>⟨by omega,by omega⟩
 have w1:∀ {n:Nat},n<12->IntKind.i64.wrap ((n:Int)+1)=((n+1:Nat):Int):=fun h=>by rw[wrap_of (by omega) (by omega)];rfl
 refine F9_ok (some ⟨b,0,none⟩) (bvs V) w _ fun b1 w2 a2=>?_
 have e2:Ext w w2:=a2.ch _
 have p2:=a2.here
 have z2:=a2.size
 have hT2:Tbl w2 b1 V:=.new a2 hS.len
 refine⟨bvs V,hT2.all,(c14 w2 hS.len).use ?_⟩
 rintro _ w7 ⟨U,rfl,hU,htc,e7⟩
 refine⟨bvs U,rfl,fun b9 w10 a10=>⟨by simpa using hU,(Tbl.zero a10).refill hU fun w11 hT9 hC11=>?_⟩⟩
 have e10:Ext w7 w10:=a10.ch _
 have p10:=a10.here
 have z7:=e7.size
 have E11:Ext w w11:=((e2.trans e7).trans e10).chN hC11 fun j hj=>by omega
 have hT1:Tbl w11 b1 V:=((hT2.ext e7).ext e10).ch hC11 (by omega)
 have hVW:∀i k:Nat,i<12->k<12->(tb2 V i k=true↔(k:Int)∈wl f (i:Int)):=fun i k _ _=>hS.rel i k
 have hUW:∀i k:Nat,tb2 U i k=true↔TC (En f) (i:Int) (k:Int):=fun i k=>(htc i k).trans ⟨hS.ev,fun t=>by
  obtain⟨i',k',h1,h2,_,_,h3⟩:=hS.tc t
  have e1:i=i':=Int.ofNat.inj h1
  have e2:k=k':=Int.ofNat.inj h2
  rw[e1,e2];exact h3⟩
 refine⟨fun n x W=>∃(i:Nat)(sw:Sl)(ws:List Int),i<=12/\n+i=12/\x=(sw,(i:Int))/\Acc w11.heap.size W sw ws i (fun z=>wl f z≠[])/\Ext w11 W,⟨12,0,⟨none,0,0⟩,[],Nat.zero_le _,rfl,rfl,.nil,Ch.refl _ _⟩,?_⟩
 rintro n _ W g ⟨i,sw,ws,hi,hni,rfl,hA,eW⟩
 have EW:=E11.trans eW
 have zW:=eW.size
 unfold F9j1
 refine IfB.dec (fun hlt=>?_) fun hge=>?_
 ·have hi':i<12:=by dsimp only at hlt;omega
  refine⟨fun m x W'=>∃(k:Nat)(so sc:Sl)(os cs:List Int),k<=12/\m+k=12/\x=(so,sc,(k:Int))/\Acc W.heap.size W' so os k (fun z=>z∈wl f (i:Int))/\Acc W.heap.size W' sc cs k (fun z=>TC (En f) (i:Int) z)/\(∀j∈blk so,j∉blk sc)/\Ext W W',
   ⟨12,0,⟨none,0,0⟩,⟨none,0,0⟩,[],[],Nat.zero_le _,rfl,rfl,.nil,.nil,by simp[blk],Ch.refl _ _⟩,?_⟩
  rintro m _ W' g2 ⟨k,so,sc,os,cs,hk,hmk,rfl,hO,hC,hdj,eW'⟩
  have z':=eW'.size
  unfold F9j2
  refine IfB.dec (fun hlt2=>?_) fun hge2=>?_
  ·have hk':k<12:=by dsimp only at hlt2;omega
   have half:∀ {so':Sl}{os':List Int}{W3:World}{K:Sl->World->Prop},Acc W.heap.size W3 so' os' (k+1) (fun z=>z∈wl f (i:Int))->Acc W.heap.size W3 sc cs k (fun z=>TC (En f) (i:Int) z)->(∀j∈blk so',j∉blk sc)->Ext W W3->
     (∀sc' cs' W4,Acc W.heap.size W4 so' os' (k+1) (fun z=>z∈wl f (i:Int))->Acc W.heap.size W4 sc' cs' (k+1) (fun z=>TC (En f) (i:Int) z)->(∀j∈blk so',j∉blk sc')->Ext W W4->K sc' W4)->
     ((0:Int)<=(i:Int)/\(i:Int)<((12:Nat):Int))/\((0:Int)<=(k:Int)/\(k:Int)<((12:Nat):Int))/\∃t:Bool,W3.cell? ⟨b9,0+(i:Int).toNat*12+(k:Int).toNat,none⟩=some (.bool t)/\
      IfB t (1*1<=16777216/\AllocP W3 (Obj.cells #[Value.int IntKind.i64 (k:Int)] 3) fun b27 w28=>∃l29:List Value,ReadC w28 (some ⟨b27,0,none⟩) (1*1) l29/\AppendP tt3 3 w28 sc.1 sc.2 sc.3 1 l29 K) (K sc W3):=fun{so' os' W3 K} h1 h2 h3 h4 hK=>by
    refine⟨hb hi',hb hk',tb2 U i k,by rw[Int.toNat_natCast,Int.toNat_natCast];exact(hT9.ext (eW.trans h4)).cell hi' hk',IfB.intro (fun ht=>?_) fun ht=>hK _ _ _ h1 (h2.skip fun t=>?_) h3 h4⟩
    ·refine h2.push (by omega) ((hUW i k).1 ht) h4.size fun s' W4 h5 h6 h7=>hK s' _ W4 (h1.ch h6 fun j hj=>h3 j hj) h5 (fun j hj hj'=>?_) (h4.chN h6 fun j hj=>h2.new j hj)
     rcases h7 j hj' with h|h
     ·exact h3 j hj h
     ·have:=h1.own.lt j hj;omega
    ·rw[(hUW i k).2 t] at ht;cases ht
   refine⟨hb hi',hb hk',tb2 V i k,by rw[Int.toNat_natCast];exact(hT1.ext (eW.trans eW')).cell hi' hk',IfB.intro (fun ht=>?_) fun ht=>?_⟩
   ·refine hO.push (by omega) ((hS.rel i k).1 ht) eW'.size fun s' W3 h5 h6 h7=>half h5 (hC.ch h6 fun j hj hj'=>hdj j hj' hj) (fun j hj hj'=>?_) (eW'.chN h6 fun j hj=>hO.new j hj) fun sc' cs' W4 g1 g2 g3 g4=>⟨(by trivial),m-1,by omega,k+1,s',sc',_,cs',hk',by omega,by(try dsimp only);rw[w1 hk'],g1,g2,g3,g4⟩
    rcases h7 j hj with h|h
    ·exact hdj j h hj'
    ·have:=hC.own.lt j hj';omega
   ·refine half (hO.skip fun t=>?_) hC hdj eW' fun sc' cs' W4 g1 g2 g3 g4=>⟨(by trivial),m-1,by omega,k+1,so,sc',os,cs',hk',by omega,by(try dsimp only);rw[w1 hk'],g1,g2,g3,g4⟩
    rw[(hS.rel i k).2 t] at ht;cases ht
  ·have:k=12:=by dsimp only at hge2;omega
   subst this
   have hos:os=wl f (i:Int):=sorted_ext hO.srt (hS.srt _) fun z=>(hO.mem z).trans ⟨fun h=>h.2.2,fun h=>by have:=(hS.rng _ _ h).2;exact⟨this.1,by omega,h⟩⟩
   have hcs:∀z,z∈cs↔TC (En f) (i:Int) z:=fun z=>(hC.mem z).trans ⟨fun h=>h.2.2,fun t=>by
    obtain⟨_,k',_,h2,_,h4,_⟩:=hS.tc t
    exact⟨by omega,by omega,t⟩⟩
   have hson:=rdI hO.own.rd
   have rest:∀ {W2:World}{K:World->Prop},Ext w W2->OwS W2 so 1 (os.map iv)->OwS W2 sc 1 (cs.map iv)->(∀w63,Ext W2 w63->K w63)->
     Cx 10 #[.pointer (some ⟨b,0,none⟩),iv (i:Int)] W2 fun v53 w54=>∃s55:Sl,v53=slV s55/\Cx 21 #[slV s55,slV so] w54 fun v56 w57=>∃t58:Bool,v56=.bool t58/\
      IfB (!t58) (Value.bool false=.bool true/\Ext w w57) (Cx 20 #[.pointer (some ⟨b,0,none⟩),iv (i:Int)] w57 fun v59 w60=>∃s61:Sl,v59=slV s61/\Cx 21 #[slV s61,slV sc] w60 fun v62 w63=>∃t64:Bool,v62=.bool t64/\
       IfB (!t64) (Value.bool false=.bool true/\Ext w w63) (K w63)):=fun{W2 K} E2 g1 g2 hK=>by
    refine(c10 (h.ext E2) (i:Int)).use ?_
    rintro _ w54 ⟨s55,rfl,ho55,e54,_⟩
    refine⟨s55,rfl,(c21 ho55.rd (g1.ext e54).rd (Nat.le_trans (wl_few h _) (by decide))).use ?_⟩
    rintro _ w57 ⟨rfl,e57⟩
    refine⟨_,rfl,IfB.no (by rw[decide_eq_true hos.symm];rfl) ((c20 (h.ext ((E2.trans e54).trans e57)) (i:Int)).use ?_)⟩
    rintro _ w60 ⟨s61,xs,rfl,hxs,hxm,hxl,hox,e60,_⟩
    refine⟨s61,rfl,(c21 hox.rd (g2.ext ((e54.trans e57).trans e60)).rd hxl).use ?_⟩
    rintro _ w63 ⟨rfl,e63⟩
    have hxc:xs=cs:=sorted_ext hxs hC.srt fun z=>(hxm z).trans (hcs z).symm
    exact⟨_,rfl,IfB.no (by rw[decide_eq_true hxc];rfl) (hK w63 (((e54.trans e57).trans e60).trans e63))⟩
   have hAW:=hA.ext eW'
   have EW':=EW.trans eW'
   refine IfB.dec (fun h0=>?_) fun h0=>?_
   ·have hne:wl f (i:Int)≠[]:=fun e=>by
     rw[e] at hos
     dsimp only at h0
     rw[hos] at hson
     simp at hson;omega
    refine hAW.push (by omega) hne (by omega) fun s51 w52 h5 h6 h7=>rest (EW'.chN h6 fun j hj=>by have:=hA.new j hj;have:=E11.size;omega) (hO.own.ch h6 fun j hj hj'=>by have:=hO.new j hj;have:=hA.own.lt j hj';omega) (hC.own.ch h6 fun j hj hj'=>by have:=hC.new j hj;have:=hA.own.lt j hj';omega) fun w63 e63=>⟨(by trivial),n-1,by omega,i+1,s51,_,hi',by omega,by(try dsimp only);rw[w1 hi'],h5.ext e63,((eW.trans eW').chN h6 fun j hj=>hA.new j hj).trans e63⟩
   ·have hz:wl f (i:Int)=[]:=by
     rw[<-hos]
     dsimp only at h0
     exact List.length_eq_zero_iff.1 (by omega)
    exact rest EW' hO.own hC.own fun w63 e63=>⟨(by trivial),n-1,by omega,i+1,sw,ws,hi',by omega,by(try dsimp only);rw[w1 hi'],(hAW.ext e63).skip fun hn=>hn hz,(eW.trans eW').trans e63⟩
 ·have:i=12:=by dsimp only at hge;omega
  subst this
  refine(c22 (h.ext EW)).use ?_
  rintro _ w80 ⟨s81,xs,rfl,hpm,hps,hox,e80,_⟩
  have hnd:xs.Nodup:=hpm.nodup_iff.2 h.map.nodup
  have hst:xs.Pairwise (· < ·):=(hps.and hnd).imp fun⟨h1,h2⟩=>by omega
  have hxw:xs=ws:=sorted_ext hst hA.srt fun z=>by
   rw[hpm.mem_iff,getM_key,key_wl h,hA.mem]
   exact⟨fun hn=>by
    obtain⟨c,hc⟩:=List.exists_mem_of_ne_nil _ hn
    have:=(hS.rng _ _ hc).1
    exact⟨this.1,by omega,hn⟩,fun hn=>hn.2.2⟩
  have hxl:xs.length<=1000000:=by
   rw[hpm.length_eq,List.length_map]
   exact Nat.le_trans h.few (by decide)
  refine⟨s81,rfl,(c21 hox.rd (hA.ext e80).own.rd hxl).use ?_⟩
  rintro _ w83 ⟨rfl,e83⟩
  exact⟨_,rfl,by rw[decide_eq_true hxw],(EW.trans e80).trans e83⟩
abbrev tyOpW:Ty:=.pair (.int .u8) (.pair (.int .u8) (.sl (.int .u8)))
theorem rd_u8{A:Nat->Prop}{w:World}{l:List Int}{t:Sl}(h:rep A w (.sl (.int .u8)) l [slV t]):Rd w t 1 (l.map (Value.int .u8))/\t.n=l.length/\∀x∈l,0<=x/\x<=255:=by
 obtain⟨s,hs,h1,h2,h3,h4,css,h5,h6,h7⟩:=h
 have:=slEq hs
 subst this
 have hcs:css=l.map fun b=>[Value.int .u8 b]:=by
  apply List.ext_getElem?
  intro i
  rw[List.getElem?_map]
  by_cases hi:i<l.length
  ·have hc:css[i]? =some (css[i]'(by omega)):=List.getElem?_eq_getElem (by omega)
   have hx:l[i]? =some l[i]:=List.getElem?_eq_getElem hi
   have:=(h6 i _ _ hc hx).1
   rw[hc,hx,this];rfl
  ·rw[List.getElem?_eq_none (by omega),List.getElem?_eq_none (by omega)];rfl
 refine⟨?_,h1,fun x hx=>?_⟩
 ·have e:css.flatten=l.map (Value.int .u8):=by
   rw[hcs]
   clear h6 h7 hcs h5 h1
   induction l with
   | nil=>rfl
   | cons x l ih=>simpa using ih
  rw[<-e];exact h7
 ·obtain⟨i,hi,rfl⟩:=List.getElem_of_mem hx
  have hc:css[i]? =some (css[i]'(by omega)):=List.getElem?_eq_getElem (by omega)
  exact u8_range (h6 i _ _ hc (List.getElem?_eq_getElem hi)).2
theorem opW_get{A:Nat->Prop}{w:World}{l:List tyOpW.den}{t:Sl}(h:rep A w (.sl tyOpW) l [slV t]){k:Nat}{x:tyOpW.den}(hx:l[k]? =some x):
  ∃b o tk,t.p=some ⟨b,o,none⟩/\w.cell? ⟨b,o+k*3+0,none⟩=some (.int .u8 x.1)/\w.cell? ⟨b,o+k*3+1,none⟩=some (.int .u8 x.2.1)/\w.cell? ⟨b,o+k*3+2,none⟩=some (slV tk)/\rep A w (.sl (.int .u8)) x.2.2 [slV tk]/\(0<=x.1/\x.1<=255)/\(0<=x.2.1/\x.2.1<=255):=by
 obtain⟨s,b,o,c,hs,hn,hp,hA,hc,c1,d1,rfl,⟨rfl,hu⟩,c2,d2,rfl,⟨rfl,hi⟩,h4⟩:=rep_get h (by decide) hx
 have:=slEq hs;subst this
 obtain⟨tk,rfl,h5⟩:=h4
 exact⟨b,o,tk,hp,hc 0 _ rfl,hc 1 _ rfl,hc 2 _ rfl,⟨tk,rfl,h5⟩,u8_range hu,u8_range hi⟩
theorem tc_rel{E:Int->Int->Prop}{V:List Bool}(h:∀a c:Nat,tb2 V a c=true↔E a c)(hr:∀a c,E a c->0<=a/\0<=c){i k:Nat}:TC (Ev V) i k↔TC E i k:=by
 constructor
 ·intro t
  induction t with
  | one e=>exact .one ((h _ _).1 e)
  | more _ e ih=>exact .more ih ((h _ _).1 e)
 ·intro t
  have key:∀ {a c:Int},TC E a c->∃i k:Nat,a=(i:Int)/\c=(k:Int)/\TC (Ev V) i k:=fun t=>by
   have en:∀ {a c:Int},E a c->∃i k:Nat,a=(i:Int)/\c=(k:Int)/\Ev V i k:=fun{a c} e=>by
    obtain⟨h1,h2⟩:=hr a c e
    refine⟨a.toNat,c.toNat,by omega,by omega,(h _ _).2 ?_⟩
    rw[show ((a.toNat:Nat):Int)=a by omega,show ((c.toNat:Nat):Int)=c by omega];exact e
   induction t with
   | one e=>
    obtain⟨i,k,h1,h2,h3⟩:=en e
    exact⟨i,k,h1,h2,.one h3⟩
   | more _ e ih=>
    obtain⟨i,k,h1,h2,h3⟩:=ih
    obtain⟨k',m,g1,g2,g3⟩:=en e
    have:k=k':=Int.ofNat.inj (h2.symm.trans g1)
    subst this
    exact⟨i,m,h1,g2,.more h3 g3⟩
  obtain⟨i',k',h1,h2,h3⟩:=key t
  have e1:i=i':=Int.ofNat.inj h1
  have e2:k=k':=Int.ofNat.inj h2
  rw[e1,e2];exact h3
theorem mod12{n:Int}(h:0<=n/\n<=255):∃i:Nat,i<12/\IntKind.i64.wrap (n.tmod 12)=(i:Int):=by
 have e:n.tmod 12=((n.toNat%12:Nat):Int):=by
  rw[Int.tmod_eq_emod_of_nonneg h.1];omega
 exact⟨n.toNat%12,by omega,by rw[e,wrap_of (by omega) (by omega)]⟩
theorem waitsPlays(w:World){l:List tyOpW.den}{c0:Value}(h0:rep (fun _=>True) w (.sl tyOpW) l [c0]):Cw 3 #[c0] w fun v w'=>v=.bool true/\Ext w w':=by
 obtain⟨tl,e0,hln,_,_,_,_⟩:=id h0
 simp only[List.cons.injEq,and_true] at e0
 subst e0
 refine F3_ok tl w _ ((c4 w).use ?_)
 rintro _ w2 ⟨rfl,e2⟩
 refine⟨true,rfl,IfB.no rfl fun b4 w5 a5 b6 w7 a7=>?_⟩
 have e5:Ext w2 w5:=a5.ch _
 have e7:Ext w5 w7:=a7.ch _
 have p5:=a5.here;have z5:=a5.size;have p7:=a7.here;have z7:=a7.size
 have z2:=e2.size
 have x7:Ext w w7:=(e2.trans e5).trans e7
 have hZ:Tbl w7 b6 zeros:=.zero a7
 have hz2:∀a c,tb2 zeros a c=false:=fun a c=>by
  by_cases h:a<12/\c<12
  ·have:=tb2_at (V:=zeros) (by rw[List.length_replicate]) h.1 h.2
   rw[List.getElem?_replicate,if_pos (by omega)] at this
   exact(Option.some.inj this).symm
  ·exact tb2_out (by rw[List.length_replicate]) h
 let N:Nat->World->Prop:=fun j W=>∃p f V,Wt W b4 p f/\f.length<=2*j/\Tbl W b6 V/\SameW f V/\¬inWt b4 p f b6/\(∀i,inWt b4 p f i->w.heap.size<=i)/\Ext w W
 refine⟨fun n x W=>∃j:Nat,x=(j:Int)/\n+j=60/\N j W,⟨60,0,rfl,rfl,none,[],zeros,(Wt.new a5).ext e7,by simp,hZ,⟨by rw[List.length_replicate],fun a c=>?_,fun a c h=>(by cases h),fun a=>.nil⟩,?_,?_,x7⟩,?_⟩
 ·rw[hz2,wl_nil];simp
 ·rintro(h|h|⟨e,he,_⟩)
  ·omega
  ·cases h
  ·cases he
 ·rintro i (rfl|hi|⟨e,he,_⟩)
  ·omega
  ·cases hi
  ·cases he
 rintro n _ W g ⟨j,rfl,hj,p,f,V,hWt,hfl,hT,hS,hn6,hfoot,xW⟩
 unfold F3j1
 refine IfB.dec (fun hlt=>IfB.dec (fun h60=>?_) fun _=>⟨rfl,xW⟩) fun _=>⟨rfl,xW⟩
 have hjl:j<l.length:=by omega
 have hx:=List.getElem?_eq_getElem hjl
 generalize l[j]=o at hx
 obtain⟨kd,oi,ol⟩:=o
 change Int at kd
 change Int at oi
 change List Int at ol
 have hget:∀ {W':World},Ext w W'->∃b o tk,tl.p=some ⟨b,o,none⟩/\W'.cell? ⟨b,o+j*3+0,none⟩=some (.int .u8 kd)/\W'.cell? ⟨b,o+j*3+1,none⟩=some (.int .u8 oi)/\W'.cell? ⟨b,o+j*3+2,none⟩=some (slV tk)/\Rd W' tk 1 (ol.map (Value.int .u8))/\tk.n=ol.length/\(∀x∈ol,0<=x/\x<=255)/\(0<=kd/\kd<=255)/\(0<=oi/\oi<=255):=fun e=>by
  obtain⟨b,o,tk,h1,h2,h3,h4,h5,h6,h7⟩:=opW_get (rep_ext e h0) hx
  obtain⟨g1,g2,g3⟩:=rd_u8 h5
  exact⟨b,o,tk,h1,h2,h3,h4,g1,g2,g3,h6,h7⟩
 have hbj:(0:Int)<=(j:Int)/\(j:Int)<(tl.n:Int):=⟨by omega,hlt⟩
 have hwj:IntKind.i64.wrap ((j:Int)+1)=((j+1:Nat):Int):=by rw[wrap_of (by omega) (by omega)];rfl
 obtain⟨pb,po,tk,hp,hc0,hc1,_,_,_,_,hkr,hir⟩:=hget xW
 obtain⟨i,hi,hw⟩:=mod12 hir
 have hb64:b6≠b4:=fun e=>hn6 (.inl e)
 have hp6:p≠some b6:=fun e=>hn6 (.inr (.inl e))
 have h6l:=hT.lt
 have zW:=xW.size
 refine⟨pb,po,hp,hbj,oi,by rw[Int.toNat_natCast];exact hc1,by decide,pb,po,hp,hbj,kd,by rw[Int.toNat_natCast];exact hc0,by decide,?_⟩
 rw[hw]
 refine IfB.intro (fun h3=>?_) fun h3=>?_
 ·-- a saga is free
  refine(c5 hWt (i:Int)).use ?_
  rintro _ w22 ⟨rfl,f',hWt',hwl',hfl',hC,hfoot'⟩
  have hn6':¬inWt b4 p f' b6:=fun h=>(hfoot' _ h).elim hn6 fun h=>by omega
  have hT':Tbl w22 b6 V:=hT.ch hC fun h=>h.elim hb64 hp6
  have x22:Ext w w22:=xW.chN hC fun k hk=>hfoot k (hk.elim .inl fun h=>.inr (.inl h))
  refine⟨(),rfl,bvs V,hT'.all,(c6 w22 hT.len hi).use ?_⟩
  rintro _ w28 ⟨U,rfl,hUl,hU,e28⟩
  refine⟨bvs U,rfl,by simpa using hUl,(hT'.ext e28).refill hUl fun w30 hT3 hC3=>?_⟩
  have hWt3:Wt w30 b4 p f':=(hWt'.ext e28).ch hC3 fun k hk e=>hn6' (e ▸ hk)
  have x30:Ext w w30:=(x22.trans e28).chN hC3 fun k hk=>by omega
  have hS3:SameW f' U:=⟨hUl,fun a c=>?_,fun a c hc=>?_,fun a=>?_⟩
  refine⟨bvs U,hT3.all,(c9 hWt3 hS3).use ?_⟩
  ·rintro _ w35 ⟨rfl,e35⟩
   exact⟨true,rfl,IfB.no rfl ⟨(by trivial),n-1,by omega,j+1,hwj,by omega,p,f',U,hWt3.ext e35,by omega,hT3.ext e35,hS3,hn6',fun k hk=>(hfoot' k hk).elim (hfoot k) fun h=>by omega,x30.trans e35⟩⟩
  ·rw[hU,hwl',hS.rel]
   by_cases ha:a=i
   ·subst ha;rw[if_pos rfl];simp
   ·rw[if_neg (show ¬((i:Int)=(a:Int)) from fun e=>ha (by omega)),List.mem_filter]
    constructor
    ·rintro⟨_,h2,h3⟩
     exact⟨h3,by simpa using fun e=>h2 (by omega)⟩
    ·rintro⟨h3,h2⟩
     refine⟨ha,fun e=>?_,h3⟩
     subst e;simp at h2
  ·rw[hwl'] at hc
   split at hc
   ·cases hc
   ·exact hS.rng a c (List.mem_filter.1 hc).1
  ·rw[hwl']
   split
   ·exact .nil
   ·exact(hS.srt a).filter _
 ·-- a saga waits
  refine⟨fun m x W'=>∃(k:Nat)(s:Sl)(xs:List Int),m+k=20/\x=(s,(k:Int))/\OwS W' s 1 (xs.map iv)/\xs.length=k/\(∀z∈xs,0<=z/\z<12)/\(∀q∈blk s,W.heap.size<=q)/\Ext W W',⟨20,0,⟨none,0,0⟩,[],rfl,rfl,.nil _ _,rfl,by simp,by simp[blk],Ch.refl _ _⟩,?_⟩
  rintro m _ W' g' ⟨k,s,xs,hk,rfl,ho,hxl,hxr,hb,e⟩
  have xW':=xW.trans e
  have fin:F3k1 W' b6 oi (s,(k:Int)) b4 (fun v w'=>v=.bool true/\Ext w w') n (fun n x W=>∃j:Nat,x=(j:Int)/\n+j=60/\N j W) (j:Int):=by
   unfold F3k1
   rw[hw]
   have hTe:=hT.ext e
   have z':=e.size
   refine⟨bvs V,hTe.all,(c7 W' hT.len hi ho.rd hxr (by omega)).use ?_⟩
   rintro v86 w87 ⟨U,hUl,hU,hv,e87⟩
   have z87:=e87.size
   obtain⟨Y,ok,hYl,rfl,hok⟩:∃(Y:List Bool)(ok:Bool),Y.length=144/\v86=.tuple #[tV Y,.bool ok]/\((TC (Ev U) i i/\Y=V/\ok=false)\/(¬TC (Ev U) i i/\Y=U/\ok=true)):=by
    rcases hv with ⟨h1,h2⟩|⟨h1,h2⟩
    ·exact⟨V,false,hT.len,h2,.inl ⟨h1,rfl,rfl⟩⟩
    ·exact⟨U,true,hUl,h2,.inr ⟨h1,rfl,rfl⟩⟩
   refine⟨(bvs Y,ok),rfl,fun b89 w90 a90=>⟨by simpa using hYl,(Tbl.zero a90).refill hYl fun w91 hT9 hC9=>?_⟩⟩
   have p90:=a90.here
   have e90:Ext w87 w90:=a90.ch _
   have e91:Ext W w91:=((e.trans e87).trans e90).chN hC9 fun q hq=>by omega
   have z91:=e91.size
   have hso:OwS w91 s 1 (xs.map iv):=((ho.ext e87).ext e90).ch hC9 fun q hq hq'=>by have:=ho.lt q hq;omega
   have hW9:=hWt.ext e91
   refine(c8 hW9 (i:Int) hso.rd (by omega) (by omega)).use ?_
   rintro v w93 ⟨p1,f1,pl,H93,l93,hc93,hf93,hs93,hm93,hv93⟩
   have h9l:=hT9.lt
   have hn9:¬inWt b4 p f b89:=fun h=>by have:=hWt.lt h;omega
   have hT93:Tbl w93 b89 Y:=hT9.ch hc93 fun h=>hn9 (h.elim .inl fun h=>.inr (.inl h))
   have hT63:Tbl w93 b6 V:=(hT.ext e91).ch hc93 fun h=>h.elim hb64 hp6
   have x93:Ext w w93:=(xW.trans e91).chN hc93 fun q hq=>hfoot q (hq.elim .inl fun h=>.inr (.inl h))
   have hn63:¬inWt b4 p1 f1 b6:=fun h=>(hf93 _ h).elim hn6 fun h=>by omega
   have hpr:∀z∈pl,0<=z/\z<12:=fun z hz=>hxr z ((hm93 z).1 hz)
   have hUE:∀a c:Nat,tb2 U a c=true↔EnS f (i:Int) pl a c:=fun a c=>by
    rw[hU]
    unfold EnS
    by_cases ha:a=i
    ·subst ha;rw[if_pos rfl,if_pos rfl,hm93]
    ·rw[if_neg ha,if_neg (show ¬((i:Int)=(a:Int)) from fun e=>ha (by omega)),hS.rel]
   have hEr:∀a c,EnS f (i:Int) pl a c->(0<=a/\a<12)/\0<=c/\c<12:=fun a c h=>by
    unfold EnS at h
    by_cases ha:(i:Int)=a
    ·rw[if_pos ha] at h
     exact⟨by omega,hpr c h⟩
    ·rw[if_neg ha] at h
     exact hS.rng a c h
   have htc:TC (Ev U) i i↔TC (EnS f (i:Int) pl) i i:=tc_rel hUE fun a c h=>⟨(hEr a c h).1.1,(hEr a c h).2.1⟩
   have main:v=.bool ok/\SameW f1 Y:=by
    rcases hv93 with ⟨h1,h2,h3⟩|⟨h1,h2,h3⟩
    ·rcases hok with ⟨_,rfl,rfl⟩|⟨h4,_,_⟩
     ·exact⟨h2,hYl,fun a c=>by rw[h3];exact hS.rel a c,fun a c h=>hS.rng a c (by rw[h3] at h;exact h),fun a=>by rw[h3];exact hS.srt a⟩
     ·exact absurd (htc.2 h1) h4
    ·rcases hok with ⟨h4,_,_⟩|⟨_,rfl,rfl⟩
     ·exact absurd (htc.1 h4) h1
     ·refine⟨h2,hYl,fun a c=>?_,fun a c h=>?_,fun a=>?_⟩
      ·rw[h3,hUE];rfl
      ·rw[h3] at h
       exact hEr a c h
      ·rw[h3]
       split
       ·exact hs93
       ·exact hS.srt a
   obtain⟨rfl,hS1⟩:=main
   refine⟨ok,rfl,IfB.no (by cases ok<;>rfl) ⟨bvs Y,hT93.all,by simpa using hYl,hT63.refill hYl fun w98 hT8 hC8=>?_⟩⟩
   have H98:Wt w98 b4 p1 f1:=H93.ch hC8 fun q hq e=>hn63 (e ▸ hq)
   have x98:Ext w w98:=x93.chN hC8 fun q hq=>by omega
   refine⟨bvs Y,hT8.all,(c9 H98 hS1).use ?_⟩
   rintro _ w103 ⟨rfl,e103⟩
   exact⟨true,rfl,IfB.no rfl ⟨(by trivial),n-1,by omega,j+1,hwj,by omega,p1,f1,Y,H98.ext e103,by omega,hT8.ext e103,hS1,hn63,fun q hq=>(hf93 q hq).elim (hfoot q) fun h=>by omega,x98.trans e103⟩⟩
  unfold F3j2
  obtain⟨a,ao,tk,hp,_,_,hc2,hr,hkn,hrg,_⟩:=hget xW'
  refine⟨a,ao,hp,hbj,tk,by rw[Int.toNat_natCast];exact hc2,IfB.dec (fun hl1=>IfB.dec (fun hl2=>?_) fun hl2=>fin) fun hl1=>fin⟩
  dsimp only at hl1 hl2
  have hk':k<ol.length:=by omega
  have hv:(ol.map (Value.int .u8))[k]? =some (.int .u8 ol[k]):=by rw[List.getElem?_map,List.getElem?_eq_getElem hk'];rfl
  have hrk:=hrg _ (List.getElem_mem hk')
  generalize ol[k]=y at hv hrk
  obtain⟨a2,o2,hp2,hcy⟩:=hr.elem1 hv
  obtain⟨z,hz,hwz⟩:=mod12 hrk
  refine⟨a,ao,hp,hbj,tk,by rw[Int.toNat_natCast];exact hc2,a2,o2,hp2,⟨by(try dsimp only);omega,hl1⟩,y,by(try dsimp only);rw[Int.toNat_natCast];exact hcy,by decide,by decide,fun b54 w55 a55=>?_⟩
  rw[hwz] at a55
  have e55:Ext W' w55:=a55.ch _
  have hsn:=rdI ho.rd
  refine(ho.ext e55).lit (new:=[iv (z:Int)]) a55.new rfl (by intro v hv;rw[List.mem_singleton.1 hv];rfl) rfl rfl (by omega) (by decide) fun s' w' ho' _ hc' hb'=>⟨(by trivial),m-1,by omega,k+1,s',xs++[(z:Int)],by omega,by(try dsimp only);rw[wrap_of (by omega) (by omega)];rfl,by rw[List.map_append];exact ho',by simp[hxl],fun q hq=>?_,fun q hq=>?_,(e.trans e55).chN hc' hb⟩
  ·rcases List.mem_append.1 hq with h|h
   ·exact hxr q h
   ·rw[List.mem_singleton.1 h];exact⟨by omega,by omega⟩
  ·rcases hb' q hq with h|h
   ·exact hb q h
   ·have:=e.size;have:=e55.size;omega
end Go.Proofs.Ytlpgdngcgbeegaa.Gx
namespace Go.Proofs.Ytlpgdngcgbeegaa.waitsPlays
open Go.ChangeShapes Go.WideShapes Go.ChangeAt Go.RowKit
open Go.ChangeMaps (open_string shut_string)
set_option linter.unusedVariables false
theorem own:ownKnob Try.prog.godebug=none:=by kernel_rfl
set_option maxRecDepth 100000 in
theorem lifted(os:Os)(started:os.Started)(H:Type)(enc:TypeId×Value->H):
  ReturnsInHanded {} Try.checked os 3 .any (Rows.waitsPlaysSpec.pre6 enc Try.prog Try.f3 Rows.waitsPlaysRow.domain false) (Rows.waitsPlaysSpec.post enc Try.prog Try.f3 false true false false):=by
 refine returnsInHanded_of_change (C:=Try.checked) own started (by kernel_rfl) Try.func3
  (ChangeSpec.witness6 (enc:=enc) (C:=Try.checked) false ⟨#[],#[.slice none 0 0],[]⟩ 8 (by kernel_rfl) (by kernel_rfl) (by kernel_rfl) (by kernel_rfl)) ?_
 intro W base args ds gs before hval0 hW hcnd _
 have hval:∀(j:Nat) t v,Try.f3.params[j]? =some t->args[j]? =some v->Value.okWide Try.prog W .any base t v:=hval0
 have hW':=hW
 have hlt:=hW.lt
 obtain⟨p,q,hA0,hV,rfl,hfz,hnd⟩:=hW
 have hA:DataW.TrodAll enc Try.prog W 0 (fun _=>true) true Try.f3.params.toList args.toList ds p:=hA0
 have hpar:Try.f3.params=#[22]:=rfl
 rw[hpar] at hA hval
 obtain⟨v0,vs0,d0,ds0,p0,q0,hargs,rfl,rfl,h0,r0⟩:=trodAll_cons hA
 obtain⟨rfl,rfl,rfl⟩:=trodAll_nil r0
 obtain rfl:args=#[v0]:=by cases args;simp_all
 obtain⟨rfl,rfl⟩:=trodVars_none hV
 clear hA0 hval0
 obtain⟨x0,e0⟩:=Gx.open_arg (d:=12) (ty:=(.sl (.pair (.int .u8) (.pair (.int .u8) (.sl (.int .u8)))))) (by kernel_rfl) h0
 obtain⟨c0,g0⟩:∃c,v0.cells.toList=[c]:=List.length_eq_one_iff.1 (Gx.rep_len e0)
 have f0:v0=c0:=Gx.val_of_cells (hval 0 22 v0 rfl rfl) (fun fs n e=>by rw[Try.underlying22];exact⟨by simp,by simp⟩) g0
 rw[g0] at e0
 have call:Calls Try.prog 3 #[v0] W fun e w'=>e=.returned (.bool true)/\Below W.heap.size W w':=by
  rw[f0]
  refine(Gx.waitsPlays W e0).calls.mono ?_
  rintro e w' ⟨v,rfl,rfl,hx⟩
  exact⟨rfl,hx.below⟩
 refine call.mono fun e W' ⟨he,hg⟩=>?_
 subst he
 have b0:∀sp:Nat->Bool,(∀x∈p0,sp x.block=true)->DataW.Trod enc Try.prog W' 0 sp true 22 v0 d0 p0:=fun sp hsp=>Gx.trod_keep (by kernel_rfl) (by kernel_rfl) (by decide+kernel) h0 hg (fun x hx=>hlt x (by simp[hx])) hsp
 exact⟨_,rfl,Gx.post_of_below (pa:=(p0++[])) (pv:=[]) hW' hg (fun _ _ _=>(trodAll_cons_mk (shut_bool Try.underlying4 _) trodAll_mk0)) (fun sp hsp=>by rw[hpar];exact(trodAll_cons_mk (b0 sp fun x hx=>hsp x (by simp[hx])) trodAll_mk0)) (fun _ _=>rfl) (by simp)
  (ok_one (by kernel_rfl) rfl (okWide_bool_mk Try.underlying4 _))⟩
set_option maxRecDepth 100000
theorem ft1:(laidOutB Try.checked.prog&&mapsRowed Try.checked.prog)=true:=by kernel_rfl
theorem ft2:(Rows.waitsPlaysRow.inPlace == Try.checked.prog.inPlace 3)=true:=by kernel_rfl
theorem ft3:(Rows.waitsPlaysRow.unfollowed == Try.checked.prog.unfollowed 3)=true:=by kernel_rfl
theorem ft4:(Rows.waitsPlaysRow.named == Try.checked.prog.varsNamed 3)=true:=by kernel_rfl
theorem ft6:((Try.checked.prog.stops == [])&&(Try.checked.prog.stopKnobs == []))=true:=by kernel_rfl
theorem ft7:(Rows.waitsPlaysRow.plainKeys == Try.checked.prog.plainKeys)=true:=by kernel_rfl
theorem ft8:Try.checked.prog.stopsHeard=true:=by kernel_rfl
theorem ft9:(Try.checked.prog.mayEnter&&((Rows.waitsPlaysRow.lifted == Try.checked.prog.liftsFinal)&&(Try.checked.prog.make == some Rows.waitsPlaysRow.make)))=true:=by kernel_rfl
theorem ft5:(Rows.waitsPlaysRow.recurses == Try.checked.prog.recurses 3)=true:=by
 have h:Try.checked.prog.unfollowed 3=true:=by have:=ft3;rw[beq_iff_eq] at this;exact this.symm
 unfold Program.recurses;rw[h];rfl
theorem facts:joinedFacts Try.checked.prog 3 Try.f3 Rows.waitsPlaysSpec Rows.waitsPlaysRow=true:=by
 obtain⟨h1,h2⟩:=Bool.and_eq_true_iff.1 ft1
 obtain⟨h3,h4⟩:=Bool.and_eq_true_iff.1 ft6
 obtain⟨h5,h6⟩:=Bool.and_eq_true_iff.1 ft9
 obtain⟨h7,h8⟩:=Bool.and_eq_true_iff.1 h6
 unfold joinedFacts
 rw[h1,h2,ft2,ft3,ft4,ft5,h3,h4,ft7,ft8,h5,h7,h8]
 kernel_rfl
theorem over:Rows.waitsPlaysRow.holds Try.pinned (OpenSpec.ofChange Rows.waitsPlaysSpec):=
 OpenClaim.holds_of_wide 3 Try.f3 rfl rfl rfl rfl rfl rfl rfl ⟨rfl,rfl,rfl,rfl,rfl⟩ rfl rfl rfl rfl rfl (by kernel_rfl) Try.func3 facts
  (of_decide_eq_true (by kernel_rfl)) (by unfold Func.isWrapper;first|(rw[if_pos (by decide+kernel)];kernel_rfl)|(rw[if_neg (by decide+kernel)];exact⟨rfl,rfl⟩))
  (fun os started H enc _=>lifted os started H enc)
theorem proved:Rows.WaitsPlaysSaid:=
 over
#print axioms proved
end Go.Proofs.Ytlpgdngcgbeegaa.waitsPlays
