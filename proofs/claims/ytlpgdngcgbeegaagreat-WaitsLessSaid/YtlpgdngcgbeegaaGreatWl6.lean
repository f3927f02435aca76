/- gimmallaw19.WaitsLess returns true for all arguments, and leaves what was there as it was. No condition beyond the statement. -/
/- Merged by pack.py: GxOU, OpnA, GxOM, AlvD, RsgH, GxOL, RefE, RefF, GxON, RefG, RefH, IntE, GxOP, RsgK, WayH, WayI, WaLess. -/
import Derived.Test.YtlpgdngcgbeegaaGreatWl1
import Derived.Test.YtlpgdngcgbeegaaGreatWl2
import Derived.Test.YtlpgdngcgbeegaaGreatWl3
import Derived.Test.YtlpgdngcgbeegaaGreatWl4
import Derived.Test.YtlpgdngcgbeegaaGreatWl5
import Derived.Test.YtlpgdngcgbeegaaGreatRows
import Derived.WalkKit
import Derived.ProofKit
import Derived.OpenShut
import Derived.ShutString
import Derived.Below
import Derived.Carry
namespace Go.Proofs.YtlpgdngcgbeegaaGreat.Gx
open Go
def GxOUby0:ByteArray:=(ByteArray.mk (Array.mk ([] )))
set_option linter.unusedVariables false
set_option maxRecDepth 100000
def F147j1(R:RV)(s3:Sl)(y4:Nat->Int->World->Prop)(b6:Nat)(n7:Int)(w8:World):Prop:=IfB (decide (n7<(s3.n:Int))) (Qx s3.1 n7 (s3.2:Int) fun b11 b12=>∃(x13:Sl×Sl),CellsAt w8 b11 (b12+n7.toNat*2) [Qy x13.fst,Qy x13.snd]/\AllocP w8 (Obj.cells #[Value.slice none 0 0,Value.slice none 0 0] 99) fun b14 w15=>#[Qy x13.fst,Qy x13.snd].size=2/\StoreP w15 b14 0 [Qy x13.fst,Qy x13.snd] fun w16=>Qs w16.drew b14 (0+0) fun s17=>Qs w16.drew b14 (0+1) fun s18=>Qu' 196 #[Qy s17] w16.drew fun s21 w20=>w20.cell? ⟨b14,0+1,none⟩=some (Qy s18)/\Qu' 197 #[Qy s18] w20 fun s24 w23=>Qx s3.1 n7 (s3.2:Int) fun b25 b26=>#[Qy s21,Qy s24].size=2/\StoreP w23 b25 (b26+n7.toNat*2) [Qy s21,Qy s24] fun w27=>Qn y4 b6 (IntKind.i64.wrap (n7+1)) w27) (R (Qy s3) w8)
theorem F147_ok(t0:Sl)(w:World)(R:RV)(h:Cx 195 #[Qy t0] w fun v1 w2=>∃s3:Sl,v1=Qy s3/\Ql (α:=Int) 0 w2 fun y4 b6 n7 w8=>(F147j1 R s3 y4 b6 n7 w8)):Cw 147 #[Qy t0] w R:=
 ckF Tryz.func147 (nd (nd (.node (nd (.loop [(10,oi)] (rg [4,5,10,25]) (nd (nd (.node (nd (.draw (sts [0,1,2,3,5,6] (.ac 4 [6,5,1,0] (.ac 7 [1,0] (sts [8,9] (.ac 10 [] .fin .non)) .non) .non)))) .nil))))) .nil))) h (by kernel_rfl) (by kernel_rfl)
def F78k1(s10:Sl)(n14:Int)(w15:World)(b1:Nat)(b13:Nat)(y11:Nat->Int->World->Prop):Prop:=Qx s10.1 n14 (s10.2:Int) fun b18 b19=>∃(x20:ByteArray×Int×Sl×Sl×Bool),CellsAt w15 b18 (b19+n14.toNat*5) (lC49 x20)/\AllocP w15 (Obj.cells #[Value.string GxOUby0,Qz 0,Value.slice none 0 0,Value.slice none 0 0,Value.bool false] 49) fun b21 w22=>(lC49 x20).toArray.size=5/\StoreP w22 b21 0 (lC49 x20) fun w23=>Qs w23.drew b1 (0+0) fun s24=>Qs w23.drew b1 (0+0) fun s25=>Qs w23.drew b21 (0+2) fun s26=>Qs w23.drew b21 (0+3) fun s27=>Qu' 147 #[Qy s26] w23.drew fun s30 w29=>w29.cell? ⟨b21,0+3,none⟩=some (Qy s27)/\w29.cell? ⟨b1,0+0,none⟩=some (Qy s25)/\w29.cell? ⟨b1,0+0,none⟩=some (Qy s24)/\Qu' 147 #[Qy s27] w29 fun s33 w32=>w32.cell? ⟨b1,0+0,none⟩=some (Qy s25)/\w32.cell? ⟨b1,0+0,none⟩=some (Qy s24)/\Qx s24.1 n14 (s24.2:Int) fun b34 b35=>#[Qy s30].size=1/\StoreP w32 b34 (b35+n14.toNat*5+2) [Qy s30] fun w36=>w36.cell? ⟨b1,0+0,none⟩=some (Qy s25)/\Qx s25.1 n14 (s25.2:Int) fun b37 b38=>#[Qy s33].size=1/\StoreP w36 b37 (b38+n14.toNat*5+3) [Qy s33] fun w39=>Qn y11 b13 (IntKind.i64.wrap (n14+1)) w39
def F78j1(R:RV)(b1:Nat)(b3:Nat)(s10:Sl)(y11:Nat->Int->World->Prop)(b13:Nat)(n14:Int)(w15:World):Prop:=IfB (decide (n14<(s10.n:Int))) (F78k1 s10 n14 w15 b1 b13 y11) (∃(x41:Sl×List Value),CellsN w15 b1 0 17 (Qy x41.fst::x41.2)/\(Array.mk (Qy x41.fst::x41.2 )).size=17/\StoreP w15 b3 0 (Qy x41.fst::x41.2) fun w44=>∃(x45:Sl×List Value),CellsN w44 b3 0 17 (Qy x45.fst::x45.2)/\R (Value.agg { toList:=Qy x45.fst::x45.2 }) w44)
theorem F78_ok(t0:Sl×List Value)(w:World)(R:RV)(h:AllocP w (Obj.cells { toList:=Qy t0.fst::t0.2 } 26) fun b1 w2=>AllocP w2 (Obj.cells #[Value.slice none 0 0,Qz 0,Qz 0,Qz 0,Qz 0,Qz 0,Qz 0,Qz 0,Qz 0,Qz 0,Qz 0,Qz 0,Qz 0,Qz 0,Qz 0,Qz 0,Qz 0] 26) fun b3 w4=>Qs w4 b1 (0+0) fun s5=>Qu' 146 #[Qy s5] w4 fun s8 w7=>#[Qy s8].size=1/\StoreP w7 b1 (0+0) [Qy s8] fun w9=>Qs w9 b1 (0+0) fun s10=>Ql (α:=Int) 0 w9 fun y11 b13 n14 w15=>(F78j1 R b1 b3 s10 y11 b13 n14 w15)):Cw 78 #[Value.agg { toList:=Qy t0.fst::t0.2 }] w R:=
 ckF Tryz.func78 (nd (nd (.node (nd (.loop [(12,oi)] (rg [3,4,12,33]) (nd (nd (.node (nd (.draw (sts [0,1,2,3,4,5,6,7,9,10] (.ac 8 (rg [0,5,9,10]) (.ac 11 (rg [0,5]) (sts [12,13] (.ac 14 [5,4,3] (sts [15,16] (.ac 17 [] .fin .non)) .non)) .non) .non)))) .nil))))) .nil))) h (by kernel_rfl) (by kernel_rfl)
theorem F27_ok(t0:Sl×List Value)(w:World)(R:RV)(h:AllocP w (Obj.cells { toList:=Qy t0.fst::t0.2 } 26) fun b1 w2=>AllocP w2 (Obj.cells #[Value.slice none 0 0,Qz 0,Qz 0,Qz 0,Qz 0,Qz 0,Qz 0,Qz 0,Qz 0,Qz 0,Qz 0,Qz 0,Qz 0,Qz 0,Qz 0,Qz 0,Qz 0] 26) fun b3 w4=>∃(x5:Sl×List Value),CellsN w4 b1 0 17 (Qy x5.fst::x5.2)/\Cx 78 #[Value.agg { toList:=Qy x5.fst::x5.2 }] w4 fun v8 w9=>∃(x10:Sl×List Value),v8=Value.agg { toList:=Qy x10.fst::x10.2 }/\(Array.mk (Qy x10.fst::x10.2 )).size=17/\StoreP w9 b1 0 (Qy x10.fst::x10.2) fun w11=>∃(x12:Sl×List Value),CellsN w11 b1 0 17 (Qy x12.fst::x12.2)/\Cx 79 #[Value.agg { toList:=Qy x12.fst::x12.2 },Value.func (Fn.func 80) #[] #[Value.pointer (some ⟨b1,0,none⟩)]] w11 fun v15 w16=>∃(l17:List Value),v15=Value.agg { toList:=l17 }/\(Array.mk (l17 )).size=16/\StoreP w16 b1 (0+1) l17 fun w18=>∃(x19:Sl×List Value),CellsN w18 b1 0 17 (Qy x19.fst::x19.2)/\(Array.mk (Qy x19.fst::x19.2 )).size=17/\StoreP w18 b3 0 (Qy x19.fst::x19.2) fun w22=>∃(x23:Sl×List Value),CellsN w22 b3 0 17 (Qy x23.fst::x23.2)/\R (Value.agg { toList:=Qy x23.fst::x23.2 }) w22):Cw 27 #[Value.agg { toList:=Qy t0.fst::t0.2 }] w R:=
 ckF Tryz.func27 .nil h (by kernel_rfl) (by kernel_rfl)
theorem F80_ok(t0:Int)(t1:Int)(t2:Nat)(w:World)(R:RV)(h:∃s1:Sl,w.cell? ⟨t2,0+0,none⟩=some (Qy s1)/\Qx s1.1 t0 (s1.2:Int) fun b2 b3=>∃(x4:ByteArray×Int×Sl×Sl×Bool),CellsAt w b2 (b3+t0.toNat*5) (lC49 x4)/\Cx 81 #[Value.agg (lC49 x4).toArray] w fun v5 w6=>∃n7:Int,v5=Qz n7/\R (Qz n7) w6):Cw 80 #[Qz t0,Qz t1,Value.pointer (some ⟨t2,0,none⟩)] w R:=
 ckF Tryz.func80 .nil h (by kernel_rfl) (by kernel_rfl)
def F146(t0:Sl)(w:World)(R:RV):Prop:=IfB t0.1.isNone (R (Value.slice none 0 0) w) (0*5<=16777216/\AllocP w (Obj.cells #[] 49) fun b1 w2=>∃(l3:List Value),ReadC w2 t0.1 (t0.2*5) l3/\AppendP tt49 49 w2 (some ⟨b1,0,none⟩) 0 0 t0.2 l3 fun s4 w5=>R (Qy s4) w5)
theorem F146_ok(t0:Sl)(w:World)(R:RV)(h:F146 t0 w R):Cw 146 #[Qy t0] w R:=
 ckF Tryz.func146 .nil h (by kernel_rfl) (by kernel_rfl)
def F195(t0:Sl)(w:World)(R:RV):Prop:=IfB t0.1.isNone (R (Value.slice none 0 0) w) (0*2<=16777216/\AllocP w (Obj.cells #[] 99) fun b1 w2=>∃(l3:List Value),ReadC w2 t0.1 (t0.2*2) l3/\AppendP tt99 99 w2 (some ⟨b1,0,none⟩) 0 0 t0.2 l3 fun s4 w5=>R (Qy s4) w5)
theorem F195_ok(t0:Sl)(w:World)(R:RV)(h:F195 t0 w R):Cw 195 #[Qy t0] w R:=
 ckF Tryz.func195 .nil h (by kernel_rfl) (by kernel_rfl)
def F196(t0:Sl)(w:World)(R:RV):Prop:=IfB t0.1.isNone (R (Value.slice none 0 0) w) (0*9<=16777216/\AllocP w (Obj.cells #[] 95) fun b1 w2=>∃(l3:List Value),ReadC w2 t0.1 (t0.2*9) l3/\AppendP tt95 95 w2 (some ⟨b1,0,none⟩) 0 0 t0.2 l3 fun s4 w5=>R (Qy s4) w5)
theorem F196_ok(t0:Sl)(w:World)(R:RV)(h:F196 t0 w R):Cw 196 #[Qy t0] w R:=
 ckF Tryz.func196 .nil h (by kernel_rfl) (by kernel_rfl)
def F197(t0:Sl)(w:World)(R:RV):Prop:=IfB t0.1.isNone (R (Value.slice none 0 0) w) (0*5<=16777216/\AllocP w (Obj.cells #[] 217) fun b1 w2=>∃(l3:List Value),ReadC w2 t0.1 (t0.2*5) l3/\AppendP tt217 217 w2 (some ⟨b1,0,none⟩) 0 0 t0.2 l3 fun s4 w5=>R (Qy s4) w5)
theorem F197_ok(t0:Sl)(w:World)(R:RV)(h:F197 t0 w R):Cw 197 #[Qy t0] w R:=
 ckF Tryz.func197 .nil h (by kernel_rfl) (by kernel_rfl)
set_option linter.unusedSimpArgs false
set_option linter.unusedVariables false
theorem flatPut{α:Type}{f:α->List Value}{sz:Nat}(hf:∀x,(f x).length=sz){x y:α}{k:Nat}{v:Value}(hk:k<sz)(hy:f y=(f x).set k v):∀ {l:List α}{i:Nat},l[i]? =some x->(l.flatMap f).set (i*sz+k) v=(l.set i y).flatMap f
 | [],_,h=>by cases h
 | a::l,0,h=>by
  cases h
  rw[List.set_cons_zero,List.flatMap_cons,List.flatMap_cons,Nat.zero_mul,Nat.zero_add,List.set_append_left _ _ (by rw[hf];exact hk),hy]
 | a::l,i+1,h=>by
  rw[List.set_cons_succ,List.flatMap_cons,List.flatMap_cons,List.set_append_right _ _ (by rw[hf,Nat.add_mul];omega),hf,Nat.add_mul,show i*sz+1*sz+k-sz=i*sz+k by omega,flatPut hf hk hy (l:=l) h]
theorem putOne{cs:List Value}{o:Nat}{v:Value}(h:o<cs.length):cs.take o++[v]++cs.drop (o+1)=cs.set o v:=by
 rw[List.set_eq_take_append_cons_drop,if_pos h];simp
theorem c146{w:World}{t:Sl}{cs:List Value}(h:Rd w t 5 cs)(h1:One cs)(hl:t.n<=1000000):Cw 146 #[slV t] w fun v w'=>∃t',v=slV t'/\OwS w' t' 5 cs/\t'.n=t.n/\Ext w w'/\∀i∈blk t',w.heap.size<=i:=by
 refine F146_ok t w _ ?_
 have e:∀R,F146 t w R=CloneF tt49 49 5 t w R:=fun _=>rfl
 rw[e]
 refine CloneF_of h rfl rfl h1 ⟨by omega,Nat.le_trans (Nat.mul_le_mul (show 2*t.n<=2000000 by omega) (show _<=1000 by decide)) (by decide)⟩ (fun s' w' h1 h2 h3 h4=>⟨s',rfl,h1,h2,h3,h4⟩) fun hp=>?_
 have h2:=h.2
 rw[hp] at h2
 have:cs=[]:=h2
 have h3:=h.1
 rw[this] at h3
 simp at h3;omega
theorem c195{w:World}{t:Sl}{cs:List Value}(h:Rd w t 2 cs)(h1:One cs)(hl:t.n<=1000000):Cw 195 #[slV t] w fun v w'=>∃t',v=slV t'/\OwS w' t' 2 cs/\t'.n=t.n/\Ext w w'/\∀i∈blk t',w.heap.size<=i:=by
 refine F195_ok t w _ ?_
 have e:∀R,F195 t w R=CloneF tt99 99 2 t w R:=fun _=>rfl
 rw[e]
 refine CloneF_of h rfl rfl h1 ⟨by omega,Nat.le_trans (Nat.mul_le_mul (show 2*t.n<=2000000 by omega) (show _<=1000 by decide)) (by decide)⟩ (fun s' w' h1 h2 h3 h4=>⟨s',rfl,h1,h2,h3,h4⟩) fun hp=>?_
 have h2:=h.2
 rw[hp] at h2
 have:cs=[]:=h2
 have h3:=h.1
 rw[this] at h3
 simp at h3;omega
theorem c196{w:World}{t:Sl}{cs:List Value}(h:Rd w t 9 cs)(h1:One cs)(hl:t.n<=1000000):Cw 196 #[slV t] w fun v w'=>∃t',v=slV t'/\OwS w' t' 9 cs/\t'.n=t.n/\Ext w w'/\∀i∈blk t',w.heap.size<=i:=by
 refine F196_ok t w _ ?_
 have e:∀R,F196 t w R=CloneF tt95 95 9 t w R:=fun _=>rfl
 rw[e]
 refine CloneF_of h rfl rfl h1 ⟨by omega,Nat.le_trans (Nat.mul_le_mul (show 2*t.n<=2000000 by omega) (show _<=1000 by decide)) (by decide)⟩ (fun s' w' h1 h2 h3 h4=>⟨s',rfl,h1,h2,h3,h4⟩) fun hp=>?_
 have h2:=h.2
 rw[hp] at h2
 have:cs=[]:=h2
 have h3:=h.1
 rw[this] at h3
 simp at h3;omega
theorem c197{w:World}{t:Sl}{cs:List Value}(h:Rd w t 5 cs)(h1:One cs)(hl:t.n<=1000000):Cw 197 #[slV t] w fun v w'=>∃t',v=slV t'/\OwS w' t' 5 cs/\t'.n=t.n/\Ext w w'/\∀i∈blk t',w.heap.size<=i:=by
 refine F197_ok t w _ ?_
 have e:∀R,F197 t w R=CloneF tt217 217 5 t w R:=fun _=>rfl
 rw[e]
 refine CloneF_of h rfl rfl h1 ⟨by omega,Nat.le_trans (Nat.mul_le_mul (show 2*t.n<=2000000 by omega) (show _<=1000 by decide)) (by decide)⟩ (fun s' w' h1 h2 h3 h4=>⟨s',rfl,h1,h2,h3,h4⟩) fun hp=>?_
 have h2:=h.2
 rw[hp] at h2
 have:cs=[]:=h2
 have h3:=h.1
 rw[this] at h3
 simp at h3;omega
theorem c147{w:World}{t:Sl}{l:List StpD}(h:StsR w t l)(hl:l.length<=1000)(hc:∀s∈l,s.1.length<=1000/\s.2.length<=1000):
  Cw 147 #[slV t] w fun v w'=>∃t',v=slV t'/\RS (fun j=>w.heap.size<=j) w' tyStp t' l/\Ext w w':=by
 obtain⟨ss,hsl,hrd,hss⟩:=RS.steps (rep_old (by decide) h)
 have hn:=h.n
 refine F147_ok t w _ ((c195 hrd (stC_all ss) (by omega)).use ?_)
 rintro _ w2 ⟨t3,rfl,ho,htn,e2,hb⟩
 have hbl:∀j∈blk t3,j<w2.heap.size:=ho.lt
 refine⟨t3,rfl,fun m x W=>∃(i:Nat)(zs:List (Sl×Sl)),i<=l.length/\m+i=l.length/\x=(i:Int)/\zs.length=l.length/\OwS W t3 2 (zs.flatMap stC)/\(∀(k:Nat) y x,zs[k]? =some y->l[k]? =some x->StpN (fun j=>j∉blk t3/\(k<i->w.heap.size<=j)) W y x)/\Ch (fun j=>j∈blk t3) w2 W,⟨l.length,0,ss,Nat.zero_le _,rfl,rfl,hsl,ho,fun k y x hy hx=>?_,Ch.refl _ _⟩,?_⟩
 ·obtain⟨g1,g2⟩:=hss k y x hy hx
  have hA:∀j,j<w.heap.size->j∉blk t3/\(k<0->w.heap.size<=j):=fun j hj=>⟨fun h=>by have:=hb j h;omega,fun h=>by omega⟩
  exact⟨(g1.ch e2 fun _ _=>id).mono hA,(g2.ch e2 fun _ _=>id).mono hA⟩
 rintro m _ W g ⟨i,zs,hi,hmi,rfl,hzl,hoz,hzs,hC⟩
 unfold F147j1
 refine IfB.dec (fun hlt=>?_) fun hge=>⟨t3,rfl,RS.mkSteps hzl hoz (by omega) (fun k y x hy hx=>?_) hb,e2.chN hC fun j hj=>hb j hj⟩
 ·have hi':i<l.length:=by omega
  have hx:l[i]? =some l[i]:=List.getElem?_eq_getElem hi'
  have hxm:l[i]∈l:=List.getElem_mem hi'
  have hy:zs[i]? =some (zs[i]'(by omega)):=List.getElem?_eq_getElem (by omega)
  generalize l[i]=x at hx hxm
  generalize zs[i]'_=y at hy
  obtain⟨g1,g2⟩:=hzs i y x hy hx
  obtain⟨hx1,hx2⟩:=hc x hxm
  obtain⟨b,o,hp,hcell⟩:=hoz.rd.elem (i:=i) (by omega) (by omega) (flatGet stC_len hy)
  refine⟨b,o,hp,⟨by omega,hlt⟩,y,by rw[Int.toNat_natCast];exact hcell,fun b14 w15 a15=>⟨rfl,store_all (vs:=stC y) a15.new rfl (stC_one y) fun w16 u16=>?_⟩⟩
  have ed:=extDrew w16
  have e16:Ext W w16.drew:=(Ext.fresh a15 u16).trans ed
  obtain⟨ca,ra,oa,ma⟩:=SlR.copy (g1.all.ext e16) (by decide)
  have na:=g1.all.n
  have nb:=g2.all.n
  refine⟨y.1,boxAt (cs:=stC y) u16.new 0 ed,y.2,boxAt (cs:=stC y) u16.new 1 ed,(c196 ra oa (by omega)).use ?_⟩
  rintro _ w20 ⟨s21,rfl,ho21,hn21,e20,hb21⟩
  obtain⟨cb,rb,ob,mb⟩:=SlR.copy ((g2.all.ext e16).ext e20) (by decide)
  refine⟨s21,rfl,boxAt (cs:=stC y) u16.new 1 (ed.trans e20),(c197 rb ob (by omega)).use ?_⟩
  rintro _ w23 ⟨s24,rfl,ho24,hn24,e23,hb24⟩
  have e23':Ext W w23:=(e16.trans e20).trans e23
  obtain⟨b',hp'⟩:=hoz.ptr (by omega)
  have hbb:b'∈blk t3:=by simp[blk,hp']
  have hz2:(zs.flatMap stC).length=l.length*2:=by rw[flatLen stC_len,hzl]
  refine⟨s24,rfl,b',0,hp',⟨by omega,hlt⟩,rfl,?_⟩
  rw[Int.toNat_natCast,Nat.zero_add]
  have zW:=e16.size;have z20:=e20.size;have z23:=e23.size;have zC:=hC.size;have z2:=e2.size
  refine(hoz.ext e23').store (vs:=stC (s21,s24)) hp' (by rw[stC_len];omega) (stC_one _) fun w27 ho27 hC27=>⟨rfl,m-1,by omega,i+1,zs.set i (s21,s24),hi',by omega,by rw[wrap_of (by omega) (by omega)];rfl,by rw[List.length_set,hzl],?_,fun k y' x' hy' hx'=>?_,(hC.trans (e23'.mono fun _ _ h=>h.elim)).trans (hC27.mono fun j _ hj=>by rw[hj];exact hbb)⟩
  ·rw[stC_len,flatSet stC_len (by omega)] at ho27
   exact ho27
  ·have keep:∀ {A:Nat->Prop}{e:Ty}{s:Sl}{q:List e.den},(∀j,A j->j∉blk t3)->RS A w23 e s q->RS A w27 e s q:=fun hA h=>RS.ch h hC27 fun j hj he=>hA j hj (by rw[he];exact hbb)
   rw[List.getElem?_set] at hy'
   by_cases hk:i=k
   ·subst hk
    rw[if_pos rfl,if_pos (by omega)] at hy'
    cases hy'
    rw[hx] at hx';cases hx'
    have n21:∀j∈blk s21,j∉blk t3/\(i<i+1->w.heap.size<=j):=fun j hj=>by
     have:=hb21 j hj
     exact⟨fun h=>by have:=hbl j h;omega,fun _=>by omega⟩
    have n24:∀j∈blk s24,j∉blk t3/\(i<i+1->w.heap.size<=j):=fun j hj=>by
     have:=hb24 j hj
     exact⟨fun h=>by have:=hbl j h;omega,fun _=>by omega⟩
    exact⟨keep (fun j hj=>hj.1) (ma _ w23 s21 (ho21.ext e23) hn21 n21),keep (fun j hj=>hj.1) (mb _ w23 s24 ho24 hn24 n24)⟩
   ·rw[if_neg hk] at hy'
    obtain⟨q1,q2⟩:=hzs k y' x' hy' hx'
    have up:∀j,(j∉blk t3/\(k<i->w.heap.size<=j))->j∉blk t3/\(k<i+1->w.heap.size<=j):=fun j hj=>⟨hj.1,fun h=>hj.2 (by omega)⟩
    exact⟨keep (fun j hj=>hj.1) ((q1.ch e23' fun _ _=>id).mono up),keep (fun j hj=>hj.1) ((q2.ch e23' fun _ _=>id).mono up)⟩
 ·have hk:k<l.length:=get_lt hx
  obtain⟨q1,q2⟩:=hzs k y x hy hx
  exact⟨q1.mono fun j hj=>hj.2 (by omega),q2.mono fun j hj=>hj.2 (by omega)⟩
theorem cxC_len{w:World}{v:CatV}{x:CatD}(h:CatM w v x):(cxC v).length=17:=by rw[List.length_cons,h.br,List.length_map,h.b16]
theorem cxC_one{w:World}{v:CatV}{x:CatD}(h:CatM w v x):One (cxC v):=by
 intro y hy
 rcases List.mem_cons.1 hy with rfl|hy
 ·rfl
 ·rw[h.br] at hy;obtain⟨n,_,rfl⟩:=List.mem_map.1 hy;rfl
theorem c78{w:World}{v:CatV}{x:CatD}(h:CatM w v x)(hk:CatOk x):
  Cw 78 #[cxV v] w fun r w'=>∃s:Sl,r=cxV (s,v.2)/\RS (fun j=>w.heap.size<=j) w' tyCls s x.1/\Ext w w':=by
 have h17:=cxC_len h
 have h1:=cxC_one h
 have hn:=h.cl.n
 have h4:=hk.n4
 obtain⟨vs,hvl,hrd,hvs⟩:=RS.classes (rep_old (by decide) h.cl)
 refine F78_ok v w _ fun b1 w2 a2 b3 w4 a4=>⟨v.1,boxAt (cs:=cxC v) a2.new 0 (a4.ch _),?_⟩
 have e2:Ext w w2:=a2.ch _
 have e4:Ext w2 w4:=a4.ch _
 have E4:=e2.trans e4
 have p2:=a2.here;have z2:=a2.size;have p4:=a4.here;have z4:=a4.size
 refine(c146 (hrd.ext E4) (flatOne clsC_one _) (by omega)).use ?_
 rintro _ w7 ⟨s8,rfl,ho,hsn,e7,hb⟩
 have z7:=e7.size
 refine⟨s8,rfl,rfl,storeC (e7.at (e4.at a2.new)) (by simp) (by simp) (by intro y hy;rw[List.mem_singleton.1 hy];rfl) fun w9 h9 c9=>?_⟩
 have hbl:∀j∈blk s8,j<w7.heap.size:=ho.lt
 have hb1:b1∉blk s8:=fun hj=>by have:=hb b1 hj;omega
 have hb3:b3∉blk s8:=fun hj=>by have:=hb b3 hj;omega
 have ho9:=ho.ch c9 fun j hj e=>hb1 (e ▸ hj)
 have E9:Ext w w9:=(E4.trans e7).chN c9 fun j hj=>by omega
 have B3:=c9.at (e7.at a4.new) (by omega)
 have H9:w9.heap[b1]? =some (.cells (cxC (s8,v.2)).toArray 26 (0,0)):=by
  rw[h9]
  show some (Obj.cells (spliceL (slV v.1::v.2) 0 [slV s8]).toArray _ _)=_
  simp[spliceL]
 have z9:=c9.size
 refine⟨s8,boxAt (cs:=cxC (s8,v.2)) H9 0 (Ch.refl _ _),fun m z W=>∃(i:Nat)(ys:List ClsV),i<=x.1.length/\m+i=x.1.length/\z=(i:Int)/\ys.length=x.1.length/\OwS W s8 5 (ys.flatMap clsC)/\(∀(k:Nat) y q,ys[k]? =some y->x.1[k]? =some q->ClsN (fun j=>j∉blk s8/\j≠b3/\(k<i->w.heap.size<=j)) W y q)/\Ch (fun j=>j∈blk s8) w9 W,⟨x.1.length,0,vs,Nat.zero_le _,rfl,rfl,hvl,ho9,fun k y q hy hq=>?_,Ch.refl _ _⟩,?_⟩
 ·obtain⟨g1,g2,g3,g4,g5,g6⟩:=(hvs k y q hy hq).ext E9
  have hA:∀j,j<w.heap.size->j∉blk s8/\j≠b3/\(k<0->w.heap.size<=j):=fun j hj=>⟨fun h=>by have:=hb j h;omega,by omega,fun h=>by omega⟩
  exact⟨g1,g2,g3.mono hA,g4.mono hA,g5,g6⟩
 rintro m _ W g ⟨i,ys,hi,hmi,rfl,hyl,hoy,hys,hC⟩
 unfold F78j1
 have B1:=hC.at H9 hb1
 have zC:=hC.size
 refine IfB.dec (fun hlt=>?_) fun hge=>?_
 ·have hi':i<x.1.length:=by omega
  have hx:x.1[i]? =some x.1[i]:=List.getElem?_eq_getElem hi'
  have hxm:x.1[i]∈x.1:=List.getElem_mem hi'
  have hy:ys[i]? =some (ys[i]'(by omega)):=List.getElem?_eq_getElem (by omega)
  have hqo:=hk.cls _ hxm
  generalize x.1[i]=q at hx hxm hqo
  generalize ys[i]'_=y at hy
  have hN:=hys i y q hy hx
  obtain⟨b,hp⟩:=hoy.ptr (by omega)
  have hbb:b∈blk s8:=by simp[blk,hp]
  obtain⟨b',hp',hcell⟩:=hoy.elem (i:=i) (by omega) (flatGet clsC_len hy)
  rw[hp] at hp';cases hp'
  have hbn:(0:Int)<=(i:Int)/\(i:Int)<(s8.n:Int):=⟨by omega,hlt⟩
  refine⟨b,0,hp,hbn,y,by rw[Int.toNat_natCast,Nat.zero_add];exact hcell,fun b21 w22 a22=>⟨rfl,store_all (vs:=clsC y) a22.new rfl (clsC_one y) fun w23 u23=>?_⟩⟩
  have ed:=extDrew w23
  have e23:Ext W w23.drew:=(Ext.fresh a22 u23).trans ed
  have z23:=e23.size
  have C1:=fun{V:World} (e:Ext w23.drew V)=>boxAt (cs:=cxC (s8,v.2)) B1 0 (e23.trans e)
  have C2:=fun{V:World} (k:Nat) (e:Ext w23.drew V)=>boxAt (cs:=clsC y) u23.new k (ed.trans e)
  refine⟨s8,C1 (Ch.refl _ _),s8,C1 (Ch.refl _ _),y.2.2.1,C2 2 (Ch.refl _ _),y.2.2.2.1,C2 3 (Ch.refl _ _),(c147 ((hN.st.all).ext e23) (by have:=hqo.l4;omega) fun s hs=>?_).use ?_⟩
  ·have:=(hqo.st s hs).1.l8;have:=(hqo.st s hs).2.l4;omega
  rintro _ w29 ⟨s30,rfl,hr30,e29⟩
  have z29:=e29.size
  refine⟨s30,rfl,C2 3 e29,C1 e29,C1 e29,(c147 (((hN.co.all).ext e23).ext e29) (by have:=hqo.l4;have:=hqo.cl;omega) fun s hs=>?_).use ?_⟩
  ·have hco:=hqo.co s hs
   have h2:=hco.2.l4
   rcases hco.1 with h1|⟨h1,_⟩
   ·rw[h1];exact⟨by simp,by omega⟩
   ·have:=h1.l8;omega
  rintro _ w32 ⟨s33,rfl,hr33,e32⟩
  have z32:=e32.size
  have e32':Ext W w32:=(e23.trans e29).trans e32
  have hyz:(ys.flatMap clsC).length=x.1.length*5:=by rw[flatLen clsC_len,hyl]
  have one:∀s:Sl,One [slV s]:=fun s v hv=>by rw[List.mem_singleton.1 hv];rfl
  refine⟨s33,rfl,C1 (e29.trans e32),C1 (e29.trans e32),b,0,hp,hbn,rfl,?_⟩
  rw[Int.toNat_natCast,Nat.zero_add]
  have h5:i*5+5<=x.1.length*5:=by omega
  have ho32:=hoy.ext e32'
  refine ho32.store (vs:=[slV s30]) hp (by simp;omega) (one _) fun w36 ho36 hC36=>?_
  rw[List.length_singleton,putOne (by omega),flatPut clsC_len (y:=(y.1,y.2.1,s30,y.2.2.2.1,y.2.2.2.2)) (by omega) rfl hy] at ho36
  have hy':(ys.set i (y.1,y.2.1,s30,y.2.2.2.1,y.2.2.2.2))[i]? =some (y.1,y.2.1,s30,y.2.2.2.1,y.2.2.2.2):=by rw[List.getElem?_set,if_pos rfl,if_pos (by omega)]
  have B36:w36.cell? ⟨b1,0+0,none⟩=some (slV s8):=boxAt (cs:=cxC (s8,v.2)) (hC36.at (e32'.at B1) fun e=>hb1 (e ▸ hbb)) 0 (Ch.refl _ _)
  refine⟨B36,b,0,hp,hbn,rfl,?_⟩
  rw[Nat.zero_add]
  refine ho36.store (vs:=[slV s33]) hp (by simp;omega) (one _) fun w39 ho39 hC39=>?_
  have hyz':((ys.set i (y.1,y.2.1,s30,y.2.2.2.1,y.2.2.2.2)).flatMap clsC).length=x.1.length*5:=by rw[flatLen clsC_len,List.length_set,hyl]
  rw[List.length_singleton,putOne (by omega),flatPut clsC_len (y:=(y.1,y.2.1,s30,s33,y.2.2.2.2)) (by omega) rfl hy',List.set_set] at ho39
  have hCC:Ch (fun j=>j∈blk s8) w32 w39:=(hC36.trans hC39).mono fun j _ hj=>by rw[hj];exact hbb
  refine⟨rfl,m-1,by omega,i+1,_,hi',by omega,by rw[wrap_of (by omega) (by omega)];rfl,by rw[List.length_set,hyl],ho39,fun k y' q' hy' hq'=>?_,(hC.trans (e32'.mono fun _ _ h=>h.elim)).trans hCC⟩
  rw[List.getElem?_set] at hy'
  by_cases hk':i=k
  ·subst hk'
   rw[if_pos rfl,if_pos (by omega)] at hy'
   cases hy'
   rw[hx] at hq';cases hq'
   have n1:∀j,w23.drew.heap.size<=j->j∉blk s8/\j≠b3/\(i<i+1->w.heap.size<=j):=fun j hj=>⟨fun h=>by have:=hbl j h;omega,by omega,fun _=>by omega⟩
   have n2:∀j,w29.heap.size<=j->j∉blk s8/\j≠b3/\(i<i+1->w.heap.size<=j):=fun j hj=>⟨fun h=>by have:=hbl j h;omega,by omega,fun _=>by omega⟩
   exact⟨hN.nm,hN.ar,((hr30.ch e32 fun _ _=>id).mono n1).ch hCC fun j hj=>hj.1,(hr33.mono n2).ch hCC fun j hj=>hj.1,hN.re,hN.sz⟩
  ·rw[if_neg hk'] at hy'
   obtain⟨g1,g2,g3,g4,g5,g6⟩:=((hys k y' q' hy' hq').ext e32').ch hCC fun j hj=>hj.1
   have up:∀j,(j∉blk s8/\j≠b3/\(k<i->w.heap.size<=j))->j∉blk s8/\j≠b3/\(k<i+1->w.heap.size<=j):=fun j hj=>⟨hj.1,hj.2.1,fun h=>hj.2.2 (by omega)⟩
   exact⟨g1,g2,g3.mono up,g4.mono up,g5,g6⟩
 ·have B3':=hC.at B3 hb3
  have L17:(cxC (s8,v.2)).length=17:=h17
  have O17:One (cxC (s8,v.2)):=fun y hy=>by
   rcases List.mem_cons.1 hy with rfl|hy
   ·rfl
   ·exact h1 y (List.mem_cons_of_mem _ hy)
  refine⟨(s8,v.2),CellsN.mk L17 (boxAll (cs:=cxC (s8,v.2)) B1 (Ch.refl _ _)),L17,store_all (vs:=cxC (s8,v.2)) B3' L17.symm O17 fun w44 u44=>⟨(s8,v.2),CellsN.mk L17 (boxAll (cs:=cxC (s8,v.2)) u44.new (Ch.refl _ _)),s8,rfl,?_,?_⟩⟩
  ·have hC':=(RS.mkClasses (A:=fun j=>j≠b3/\w.heap.size<=j) hyl hoy (by omega) (fun q hq=>by have:=(hk.cls q hq).a0;have:=(hk.cls q hq).a3;omega) (fun k y q hy hq=>?_) fun j hj=>⟨fun e=>hb3 (e ▸ hj),by have:=hb j hj;omega⟩)
   ·exact(hC'.ch u44.ch fun j hj=>hj.1).mono fun j hj=>hj.2
   ·obtain⟨g1,g2,g3,g4,g5,g6⟩:=hys k y q hy hq
    exact⟨g1,g2,g3.mono fun j hj=>⟨hj.2.1,hj.2.2 (by have:=get_lt hq;omega)⟩,g4.mono fun j hj=>⟨hj.2.1,hj.2.2 (by have:=get_lt hq;omega)⟩,g5,g6⟩
  ·exact(E9.chN hC fun j hj=>by have:=hb j hj;omega).chN u44.ch fun j hj=>by omega
theorem c80{w:World}{v:CatV}{x:CatD}{b c d:Nat}(h:CatM w v x)(hk:CatOk x)(hb:∃T,w.heap[b]? =some (.cells (cxC v).toArray T (0,0)))(hc:c<x.1.length):
  Cw 80 #[iv (c:Int),iv (d:Int),.pointer (some ⟨b,0,none⟩)] w fun r w'=>r=iv (openF x c d)/\Ext w w':=by
 obtain⟨T,hb⟩:=hb
 have hn:=h.cl.n
 have hx:x.1[c]? =some x.1[c]:=List.getElem?_eq_getElem hc
 have hxm:x.1[c]∈x.1:=List.getElem_mem hc
 generalize x.1[c]=y at hx hxm
 obtain⟨pb,o,u,hp,hcell,hM⟩:=h.cl.at hx
 have hl:=(hk.cls y hxm).l4
 have hsn:u.2.2.1.n=y.2.2.1.length:=hM.st.n
 refine F80_ok (c:Int) (d:Int) b w _ ⟨v.1,boxAt (cs:=cxC v) hb 0 (Ch.refl _ _),pb,o,hp,⟨by omega,by omega⟩,u,by rw[Int.toNat_natCast];exact hcell,(c81 u w (by omega)).use ?_⟩
 rintro _ w' ⟨rfl,e⟩
 exact⟨_,rfl,by rw[hsn,<-nSt_of hx];rfl,e⟩
theorem map_iv_open{x:CatD}(h:CatOk x):∀n∈(openD x).2, -9223372036854775808<=n/\n<=9223372036854775807:=fun n hn=>by have:=open_rng h n hn;omega
theorem c27{w:World}{v:CatV}{x:CatD}(h:CatM w v x)(hk:CatOk x):
  Cw 27 #[cxV v] w fun r w'=>∃v':CatV,r=cxV v'/\CatM w' v' (openD x)/\Ext w w':=by
 have h17:=cxC_len h
 have h1:=cxC_one h
 have h4:=hk.n4
 have hn:=h.cl.n
 refine F27_ok v w _ fun b1 w2 a2 b3 w4 a4=>⟨v,CellsN.mk h17 (boxAll (cs:=cxC v) a2.new (a4.ch _)),?_⟩
 have e2:Ext w w2:=a2.ch _
 have e4:Ext w2 w4:=a4.ch _
 have E4:=e2.trans e4
 have p2:=a2.here;have z2:=a2.size;have p4:=a4.here;have z4:=a4.size
 refine(c78 (h.ext E4) hk).use ?_
 rintro _ w9 ⟨s,rfl,hR9,e9⟩
 have hM9:CatM w9 (s,v.2) x:=⟨hR9.all,h.br,h.b16,h.brr⟩
 have z9:=e9.size
 have l17:(cxC (s,v.2)).length=17:=h17
 refine⟨(s,v.2),rfl,h17,store_all (vs:=cxC (s,v.2)) (e9.at (e4.at a2.new)) (h17.trans l17.symm) (cxC_one hM9) fun w11 u11=>?_⟩
 have B3:=u11.at (e9.at a4.new) (by omega)
 have E9:=E4.trans e9
 have z9':=E9.size
 have hM11:CatM w11 (s,v.2) x:=⟨(hR9.ch u11.ch fun j hj e=>by omega).all,h.br,h.b16,h.brr⟩
 have hR11:=hR9.ch u11.ch fun j hj e=>by omega
 have e11:Ext w w11:=E9.chN u11.ch fun j e=>by omega
 have z11:=u11.size
 have hcl:nCl (s,v.2)=x.1.length:=by unfold nCl;have:=hM9.cl.n;dsimp only at this ⊢;omega
 refine⟨(s,v.2),CellsN.mk l17 (boxAll (cs:=cxC (s,v.2)) u11.new (Ch.refl _ _)),?_⟩
 refine(c79 (v:=(s,v.2)) (t1:=(80,#[.pointer (some ⟨b1,0,none⟩)])) (f:=openF x) (by show v.2.length=16;rw[h.br,List.length_map,h.b16]) fun c d W hc hd e R' hR=>(c80 (hM11.ext e) hk ⟨_,e.at u11.new⟩ (by rw[hcl] at hc;exact hc)).use fun r w' ⟨hr,e'⟩=>hr ▸ hR w' e').use ?_
 rintro _ w16 ⟨rfl,e16⟩
 rw[hcl]
 have z16:=e16.size
 have ho16:(openD x).2.length=16:=tblF_len _ _
 have one16:One ((openD x).2.map iv):=one_ints _
 refine⟨(openD x).2.map iv,rfl,by simp[ho16],storeC (e16.at u11.new) (by intro e;have:=congrArg List.length e;rw[List.length_map,ho16] at this;cases this) (by rw[List.size_toArray,l17,List.length_map,ho16];omega) one16 fun w18 h18 c18=>?_⟩
 have H18:w18.heap[b1]? =some (.cells (cxC (s,(openD x).2.map iv)).toArray 26 (0,0)):=by
  rw[h18]
  congr 3
  show spliceL (slV s::v.2) (0+1) ((openD x).2.map iv)=slV s::(openD x).2.map iv
  have hv:v.2.length=16:=by have:=h17;rw[List.length_cons] at this;omega
  unfold spliceL
  rw[List.length_map,ho16,List.drop_of_length_le (by rw[List.length_cons];omega)]
  simp
 have q17:(cxC (s,(openD x).2.map iv)).length=17:=by rw[List.length_cons,List.length_map,ho16]
 have qone:One (cxC (s,(openD x).2.map iv)):=fun y hy=>by
  rcases List.mem_cons.1 hy with rfl|hy
  ·rfl
  ·exact one16 y hy
 have z18:=c18.size
 have hR18:=(hR11.ch e16 fun _ _=>id).ch c18 fun j hj e=>by omega
 refine⟨(s,(openD x).2.map iv),CellsN.mk q17 (boxAll (cs:=cxC (s,(openD x).2.map iv)) H18 (Ch.refl _ _)),q17,store_all (vs:=cxC (s,(openD x).2.map iv)) (c18.at (e16.at B3) (by omega)) q17.symm qone fun w22 u22=>⟨(s,(openD x).2.map iv),CellsN.mk q17 (boxAll (cs:=cxC (s,(openD x).2.map iv)) u22.new (Ch.refl _ _)),(s,(openD x).2.map iv),rfl,⟨(hR18.ch u22.ch fun j hj e=>by omega).all,rfl,ho16,map_iv_open hk⟩,?_⟩⟩
 exact((e11.trans e16).chN c18 fun j e=>by omega).chN u22.ch fun j e=>by omega
set_option maxRecDepth 100000
theorem arr_plain{A:Nat->Prop}{w:World}{e:Ty}{n:Nat}{f:e.den->List Value}{Q:e.den->Prop}{l:List e.den}{cs:List Value}(h:rep A w (.arr n e) l cs)(hp:∀x c,rep A w e x c->c=f x/\Q x):l.length=n/\cs=l.flatMap f/\∀x∈l,Q x:=by
 obtain⟨hn,css,hl,hr,rfl⟩:=h
 have hi:∀(i:Nat)(hi:i<l.length),css[i]? =some (f l[i])/\Q l[i]:=fun i hi=>by
  have hc:css[i]? =some (css[i]'(by omega)):=List.getElem?_eq_getElem (by omega)
  obtain⟨h1,h2⟩:=hp _ _ (hr i _ _ hc (List.getElem?_eq_getElem hi))
  exact⟨by rw[hc,h1],h2⟩
 have hcs:css=l.map f:=by
  apply List.ext_getElem?
  intro i
  by_cases h:i<l.length
  ·rw[(hi i h).1,List.getElem?_map,List.getElem?_eq_getElem h];rfl
  ·rw[List.getElem?_eq_none (by omega),List.getElem?_eq_none (by rw[List.length_map];omega)]
 refine⟨hn,by rw[hcs,List.flatMap_def],fun x hx=>?_⟩
 obtain⟨i,h,rfl⟩:=List.getElem_of_mem hx
 exact(hi i h).2
abbrev catOf(x:tyCat.den):CatD:=(x.1,x.2.flatten)
theorem rep_cat{A:Nat->Prop}{w:World}{x:tyCat.den}{cs:List Value}(h:rep A w tyCat x cs):∃v:CatV,cs=cxC v/\CatM w v (catOf x):=by
 obtain⟨c,d,rfl,h1,h2⟩:=h
 have h1:=rep_mono (B:=fun _=>True) (fun _ _=>trivial) h1
 obtain⟨s,rfl,_⟩:=id h1
 obtain⟨k1,k2,k3⟩:=arr_plain (n:=4) (e:=.arr 4 tyI) (f:=fun r=>r.map fun n=>Value.int .i64 n) (Q:=fun r=>r.length=4/\∀n∈r, -9223372036854775808<=n/\n<=9223372036854775807) (l:=x.2) h2 fun r c hr=>by
  obtain⟨g1,g2,g3⟩:=arr_plain (n:=4) (e:=tyI) (f:=fun n=>[Value.int .i64 n]) (Q:=fun n=> -9223372036854775808<=n/\n<=9223372036854775807) (l:=r) hr fun n c hc=>⟨hc.1,hc.2.1,hc.2.2⟩
  refine⟨by rw[g2,List.map_eq_flatMap],g1,g3⟩
 refine⟨(s,d),rfl,h1,?_,?_,fun n hn=>?_⟩
 ·rw[k2]
  show List.flatMap _ x.2=x.2.flatten.map _
  rw[List.map_flatten,List.flatMap_def]
 ·show x.2.flatten.length=16
  rw[List.length_flatten]
  have:∀l:List (List Int),(∀r∈l,r.length=4)->(l.map List.length).sum=l.length*4:=fun l=>by
   induction l with
   | nil=>intro _;rfl
   | cons r l ih=>
    intro h
    rw[List.map_cons,List.sum_cons,ih fun q hq=>h q (List.mem_cons_of_mem _ hq),h r (by simp),List.length_cons];omega
  rw[this _ fun r hr=>(k3 r hr).1]
  have k1:x.2.length=4:=k1
  omega
 ·obtain⟨r,hr,hn⟩:=List.mem_flatten.1 hn
  exact(k3 r hr).2 n hn
theorem arr_eq{cs:Array Value}{l:List Value}(h:cs.toList=l):cs=l.toArray:=by rw[<-h]
theorem c24{w:World}{v:CatV}{x:CatD}{t:Sl}{l:List Acv}(h:CatM w v x)(hL:AcL w t l):
  Cw 24 #[cxV v,slV t] w fun r w'=>∃b,r=.bool b/\(b=true↔AMay x l)/\Ext w w':=by
 have hn:=hL.n
 have hvn:=cat_cl h
 refine F24_ok v t w _ fun b1 w2 a2=>?_
 have e2:Ext w w2:=a2.ch _
 refine⟨v,cxN h a2.new (Ch.refl _ _),(c53 (h.ext e2)).use ?_⟩
 rintro _ w7 ⟨r,rfl,hr,e7⟩
 have E7:=e2.trans e7
 have no:∀ {W:World},Ext w W->¬AMay x l->∃b,Value.bool false=.bool b/\(b=true↔AMay x l)/\Ext w W:=fun e h=>⟨false,rfl,⟨fun h=>(by cases h),fun h'=>absurd h' h⟩,e⟩
 refine⟨r,rfl,IfB.intro (fun h1=>no E7 fun h=>?_) fun h1=>IfB.dec (fun h2=>no E7 fun h=>by have:=h.l12;omega) fun h2=>?_⟩
 ·have h1:r=false:=by simpa using h1
  rw[hr.2 h.cat] at h1;cases h1
 have hk:=hr.1 (by simpa using h1)
 refine⟨fun m z W=>∃i:Nat,i<=l.length/\m+i=l.length/\z=(i:Int)/\(∀a∈l.take i,AcOk x a)/\Ext w7 W,⟨l.length,0,Nat.zero_le _,rfl,rfl,by simp,Ch.refl _ _⟩,?_⟩
 rintro m _ W g ⟨i,hi,hmi,rfl,hall,eW⟩
 unfold F24j1
 have EW:=E7.trans eW
 refine IfB.dec (fun hlt=>?_) fun hge=>?_
 ·have hi':i<l.length:=by omega
  have hx:l[i]? =some l[i]:=List.getElem?_eq_getElem hi'
  have hxm:l[i]∈l:=List.getElem_mem hi'
  have htk:=take_succ_get hx
  generalize l[i]=a at hx hxm htk
  have nok:¬AcOk x a->¬AMay x l:=fun h h'=>h (h'.all a hxm)
  unfold F24k1
  obtain⟨sb,so,hsp,hsc⟩:=(hL.ext EW).at hx
  refine⟨sb,so,hsp,⟨by omega,hlt⟩,a.v,by rw[Int.toNat_natCast];exact hsc,fun b19 w20 a20=>⟨rfl,store_all (vs:=acC a.v) a20.new rfl (acC_one a.v) fun w21 u21=>?_⟩⟩
  have ed:=extDrew w21
  have e21:Ext W w21.drew:=(Ext.fresh a20 u21).trans ed
  have E21:=EW.trans e21
  have x21:Ext w2 w21.drew:=(e7.trans eW).trans e21
  have qa:=fun{V:World} (k:Nat) (e:Ext w21.drew V)=>boxAt (cs:=acC a.v) u21.new k (ed.trans e)
  have qc:w21.drew.cell? ⟨b1,0+0,none⟩=some (slV v.1):=boxAt (cs:=cxC v) a2.new 0 x21
  have r0:Ext w21.drew w21.drew:=Ch.refl _ _
  have han:=(hL.ok a hxm).n
  refine⟨_,qa 0 r0,IfB.dec (fun h3=>no E21 (nok fun h=>by have:=h.c0;omega)) fun h3=>⟨_,qa 0 r0,v.1,qc,IfB.dec (fun h4=>no E21 (nok fun h=>by have:=h.cn;omega)) fun h4=>?_⟩⟩
  obtain⟨pb,po,u,y,hy,hyk,hp,hpn,hpc,hu,hun⟩:=(h.ext E21).steps hk (a:=a) (by omega) (by omega)
  have hns:=nSt_of hy
  refine⟨_,qa 1 r0,v.1,qc,_,qa 0 r0,pb,po,hp,hpn,u.2.1,hpc 1 _ rfl,IfB.intro (fun h5=>no E21 (nok fun h=>?_)) fun h5=>?_⟩
  ·have:=h.na y hy
   have h5:(a.v.2.1.n:Int)≠u.2.1:=by simpa using h5
   rw[hu.ar] at h5
   exact h5 (by rw[han,this])
  have h5:(a.ar.length:Int)=y.2.1:=by
   have h5:(a.v.2.1.n:Int)=u.2.1:=by simpa using h5
   rw[<-hu.ar,<-h5,han]
  refine⟨_,qa 2 r0,IfB.dec (fun h6=>no E21 (nok fun h=>by have:=h.d0;omega)) fun h6=>⟨_,qa 2 r0,v.1,qc,_,qa 0 r0,pb,po,hp,hpn,u.2.2.1,hpc 2 _ rfl,IfB.dec (fun h7=>no E21 (nok fun h=>by have:=h.dl;omega)) fun h7=>⟨_,qa 3 r0,IfB.dec (fun h8=>no E21 (nok fun h=>by have:=h.p0;omega)) fun h8=>⟨_,qa 3 r0,IfB.dec (fun h9=>no E21 (nok fun h=>by have:=h.p3;omega)) fun h9=>?_⟩⟩⟩⟩
  refine⟨fun m2 z W2=>∃j:Nat,j<=a.ar.length/\m2+j=a.ar.length/\z=(j:Int)/\(∀k∈a.ar.take j,0<=k/\k<=99)/\Ext w21.drew W2,⟨a.ar.length,0,Nat.zero_le _,rfl,rfl,by simp,r0⟩,?_⟩
  rintro m2 _ W2 g2 ⟨j,hj,hmj,rfl,hargs,eW2⟩
  unfold F24j2
  have ha3:=hyk.a3
  refine⟨_,qa 1 eW2,IfB.dec (fun hlt2=>?_) fun hge2=>⟨(by trivial),m-1,by omega,i+1,hi',by omega,by rw[wrap_of (by omega) (by omega)];rfl,fun a' ha'=>?_,(eW.trans e21).trans eW2⟩⟩
  ·have hj':j<a.ar.length:=by omega
   have hxa:a.ar[j]? =some a.ar[j]:=List.getElem?_eq_getElem hj'
   have hxam:a.ar[j]∈a.ar:=List.getElem_mem hj'
   have htka:=take_succ_get hxa
   generalize a.ar[j]=k at hxa hxam htka
   obtain⟨kb,ko,hkp,hkc⟩:=rdI_get ((hL.ok a hxm).ext (E21.trans eW2)) hxa
   refine⟨_,qa 1 eW2,kb,ko,hkp,⟨by omega,hlt2⟩,k,by rw[Int.toNat_natCast];exact hkc,IfB.dec (fun h10=>no (E21.trans eW2) (nok fun h=>by have:=(h.ao k hxam).1;omega)) fun h10=>⟨_,qa 1 eW2,kb,ko,hkp,⟨by omega,hlt2⟩,k,by rw[Int.toNat_natCast];exact hkc,IfB.dec (fun h11=>no (E21.trans eW2) (nok fun h=>by have:=(h.ao k hxam).2;omega)) fun h11=>⟨(by trivial),m2-1,by omega,j+1,hj',by omega,by rw[wrap_of (by omega) (by omega)];rfl,fun k' hk'=>?_,eW2⟩⟩⟩
   rw[htka] at hk'
   rcases List.mem_append.1 hk' with h'|h'
   ·exact hargs k' h'
   ·rw[List.mem_singleton.1 h'];omega
  ·have hj':j=a.ar.length:=by omega
   subst hj'
   rw[List.take_length] at hargs
   rw[htk] at ha'
   rcases List.mem_append.1 ha' with h'|h'
   ·exact hall a' h'
   ·rw[List.mem_singleton.1 h']
    exact⟨by omega,by omega,fun y' hy'=>(by rw[hy] at hy';cases hy';exact h5),hargs,by omega,by omega,by omega,by omega⟩
 ·have hi':i=l.length:=by omega
  subst hi'
  rw[List.take_length] at hall
  exact⟨true,rfl,⟨fun _=>⟨hk,by omega,hall⟩,fun _=>rfl⟩,EW⟩
theorem c21{w:World}{v:CatV}{x:CatD}{t:Sl}{l:List Acv}(h:CatM w v x)(hL:AcL w t l)(hl:l.length<=9223372036854775807):
  Cw 21 #[cxV v,slV t] w fun r w'=>∃b,r=.bool b/\Ext w w':=by
 have hn:=hL.n
 refine F21_ok v t w _ fun b1 w2 a2=>?_
 have e2:Ext w w2:=a2.ch _
 refine⟨fun m z W=>∃i:Nat,i<=l.length/\m+i=l.length/\z=(i:Int)/\Ext w2 W,⟨l.length,0,Nat.zero_le _,rfl,rfl,Ch.refl _ _⟩,?_⟩
 rintro m _ W g ⟨i,hi,hmi,rfl,eW⟩
 unfold F21j1
 have EW:=e2.trans eW
 refine IfB.dec (fun hlt=>?_) fun hge=>?_
 ·have hi':i<l.length:=by omega
  have hx:l[i]? =some l[i]:=List.getElem?_eq_getElem hi'
  generalize l[i]=a at hx
  obtain⟨sb,so,hsp,hsc⟩:=(hL.ext EW).at hx
  exact⟨sb,so,hsp,⟨by omega,hlt⟩,a.v.2.1,by rw[Int.toNat_natCast];exact hsc 1 _ rfl,IfB.dec (fun _=>⟨true,rfl,EW⟩) fun _=>⟨(by trivial),m-1,by omega,i+1,hi',by omega,by rw[wrap_of (by omega) (by omega)];rfl,eW⟩⟩
 ·refine⟨v,cxN h a2.new eW,(c71 (h.ext EW)).use ?_⟩
  rintro _ w18 ⟨t19,rfl,e18⟩
  exact⟨t19,rfl,IfB.intro (fun _=>⟨true,rfl,EW.trans e18⟩) fun _=>⟨_,rfl,EW.trans e18⟩⟩
abbrev tyAc:Ty:=.pair (.int .i64) (.pair (.sl (.int .i64)) (.pair (.int .i64) (.pair (.int .i64) (.pair (.arr 4 (.int .i64)) (.int .i64)))))
theorem rep_ac{A:Nat->Prop}{w:World}{x:tyAc.den}{cs:List Value}(h:rep A w tyAc x cs):∃a:Acv,cs=aL a/\AcM w a:=by
 obtain⟨c1,d1,rfl,⟨rfl,_⟩,c2,d2,rfl,h2,c3,d3,rfl,⟨rfl,_⟩,c4,d4,rfl,⟨rfl,_⟩,c5,d5,rfl,h5,⟨rfl,_⟩⟩:=h
 obtain⟨s,rfl,hR,_,_,_⟩:=rep_ints h2
 obtain⟨g1,g2,_⟩:=arr_plain (n:=4) (e:=.int .i64) (f:=fun n=>[Value.int .i64 n]) (Q:=fun _=>True) (l:=x.2.2.2.2.1) h5 fun n c hc=>⟨hc.1,trivial⟩
 match hq:x.2.2.2.2.1,g1,g2 with
 | [r1,r2,r3,r4],_,g2=>
  subst g2
  exact⟨⟨(x.1,s,x.2.2.1,x.2.2.2.1,r1,r2,r3,r4,x.2.2.2.2.2),x.2.1⟩,rfl,hR⟩
theorem rep_acs{w:World}{l:List tyAc.den}{c:Value}(h:rep (fun _=>True) w (.sl tyAc) l [c]):∃(t:Sl)(L:List Acv),c=slV t/\AcL w t L/\L.length<=9223372036854775807:=by
 obtain⟨s,ns,h1,h2,h3,h4,h5,h6,h7⟩:=rep_list (f:=aL) (Q:=fun _ a=>AcM w a) h fun x _ c hc=>rep_ac hc
 simp only[List.cons.injEq,and_true] at h1
 refine⟨s,ns,h1,⟨h2,fun a ha=>?_⟩,by have:=maxLen_le;omega⟩
 obtain⟨i,hi,rfl⟩:=List.getElem_of_mem ha
 exact h7 i _ _ (List.getElem?_eq_getElem (by omega)) (List.getElem?_eq_getElem hi)
theorem AcOk.open{x:CatD}{a:Acv}(h:AcOk x a):AcOk (openD x) a:=⟨h.c0,h.cn,h.na,h.ao,h.d0,h.dl,h.p0,h.p3⟩
theorem AMay.open{x:CatD}{l:List Acv}(h:AMay x l):AMay (openD x) l:=⟨open_ok h.cat,h.l12,fun a ha=>(h.all a ha).open⟩
theorem BlkP.closed{x:CatD}(hk:CatOk x){s o:Acv}(hs:AcOk x s)(ho:AcOk x o):¬BlkP (openD x) s o:=by
 rintro⟨_,h1,l,u,hB,hu,_⟩
 have h2:=hB.l
 have h3:=hB.n
 have h4:=hs.c0;have h5:=hs.cn;have h6:=ho.c0;have h7:=ho.cn
 have hn:nSt (openD x) s.v.1.toNat=nSt x s.v.1.toNat:=rfl
 have:=hB.no (s.v.2.2.1-1).toNat h2 (by omega)
 rw[open_brk hk (by omega) (by omega) (by omega)] at this
 cases this
theorem waitsLess(w:World){x:tyCat.den}{cs:Array Value}(h0:rep (fun _=>True) w tyCat x cs.toList){l:List tyAc.den}{c1:Value}(h1:rep (fun _=>True) w (.sl tyAc) l [c1]){i:Int}{c2:Value}(h2:rep (fun _=>True) w (.int .i64) i [c2]):
  Cw 4 #[.agg cs,c1,c2] w fun v w'=>v=.bool true/\Ext w w':=by
 obtain⟨v,e0,hC⟩:=rep_cat h0
 obtain⟨t,L,rfl,hL,hlen⟩:=rep_acs h1
 obtain⟨e2,_⟩:=h2
 simp only[List.cons.injEq,and_true] at e2
 subst e2
 rw[arr_eq e0]
 refine F4_ok v t i w _ fun b1 w2 a2=>(c20 w2).use ?_
 rintro _ w4 ⟨rfl,e4⟩
 have e2:Ext w w2:=a2.ch _
 have E4:=e2.trans e4
 refine⟨true,rfl,IfB.no rfl ⟨v,cxN hC a2.new e4,(c21 (hC.ext E4) (hL.ext E4) hlen).use ?_⟩⟩
 rintro _ w10 ⟨g,rfl,e10⟩
 have x10:=e4.trans e10
 have E10:=E4.trans e10
 refine⟨g,rfl,IfB.intro (fun _=>⟨rfl,E10⟩) fun _=>⟨v,cxN hC a2.new x10,(c24 (hC.ext E10) (hL.ext E10)).use ?_⟩⟩
 rintro _ w16 ⟨t17,rfl,h17,e16⟩
 have x16:=x10.trans e16
 have E16:=E10.trans e16
 refine⟨t17,rfl,IfB.intro (fun _=>⟨rfl,E16⟩) fun h3=>?_⟩
 have hM:=h17.1 (by simpa using h3)
 have hk:=hM.cat
 have hl12:=hM.l12
 have hln:=hL.n
 refine⟨v,cxN hC a2.new x16,(c22 (hC.ext E16) (hL.ext E16) i).use ?_⟩
 rintro _ w22 ⟨s23,os,rfl,ho,hos1,hos2,e22⟩
 have x22:=x16.trans e22
 have E22:=E16.trans e22
 have hn:=ho.len
 rw[List.length_map,Nat.mul_one] at hn
 have hos:∀k∈os,k<L.length/\InWay (catOf x) L i.toNat k/\AsksP (catOf x) L i:=fun k hk=>by
  by_cases hA:AsksP (catOf x) L i
  ·rw[hos1 ⟨hM,hA⟩] at hk
   obtain⟨g1,g2⟩:=List.mem_filter.1 hk
   exact⟨List.mem_range.1 g1,bq_iff.1 g2,hA⟩
  ·rw[hos2 fun h=>hA h.2] at hk;cases hk
 have hbl:os.length<=L.length:=by
  by_cases hA:AsksP (catOf x) L i
  ·rw[hos1 ⟨hM,hA⟩];exact BlL_len _ _ _ _
  ·rw[hos2 fun h=>hA h.2];exact Nat.zero_le _
 refine⟨s23,rfl,fun m z W=>∃j:Nat,j<=os.length/\m+j=os.length/\z=(j:Int)/\Ext w22 W,⟨os.length,0,Nat.zero_le _,rfl,rfl,Ch.refl _ _⟩,?_⟩
 rintro m _ W g' ⟨j,hj,hmj,rfl,eW⟩
 unfold F4j1
 have xW:=x22.trans eW
 have EW:=E22.trans eW
 refine IfB.dec (fun hlt=>?_) fun hge=>?_
 ·have hj':j<os.length:=by omega
  have hx:os[j]? =some os[j]:=List.getElem?_eq_getElem hj'
  have hxm:os[j]∈os:=List.getElem_mem hj'
  generalize os[j]=k at hx hxm
  obtain⟨hkl,⟨hki,a,o,ha,_,hB⟩,hA⟩:=hos k hxm
  obtain⟨b,ob,hp,hc⟩:=(ho.rd.ext eW).elem1 (i:=j) (v:=natV k) (by rw[List.getElem?_map,hx];rfl)
  obtain⟨ab,ao,hap,hac⟩:=(hL.ext EW).at ha
  have hbn:(0:Int)<=(j:Int)/\(j:Int)<(s23.n:Int):=⟨by omega,hlt⟩
  have hkn:(0:Int)<=(k:Int)/\(k:Int)<(t.n:Int):=⟨by omega,by omega⟩
  have hc':W.cell? ⟨b,ob+(j:Int).toNat,none⟩=some (.int .i64 (k:Int)):=by rw[Int.toNat_natCast];exact hc
  have h0:=hA.1
  exact⟨b,ob,hp,hbn,(k:Int),hc',IfB.no (decide_eq_false (by omega)) ⟨b,ob,hp,hbn,(k:Int),hc',IfB.no (decide_eq_false (by omega)) ⟨b,ob,hp,hbn,(k:Int),hc',IfB.no (beq_eq_false_iff_ne.2 (by omega)) ⟨b,ob,hp,hbn,(k:Int),hc',ab,ao,hap,hkn,a.v.2.2.2.1,by rw[Int.toNat_natCast];exact hac 3 _ rfl,IfB.no (by rw[hB.1];rfl) ⟨b,ob,hp,hbn,(k:Int),hc',ab,ao,hap,hkn,a.v.2.2.1,by rw[Int.toNat_natCast];exact hac 2 _ rfl,IfB.no (by have:=hB.2.1;simp;omega) ⟨(by trivial),m-1,by omega,j+1,hj',by omega,by rw[wrap_of (by omega) (by omega)];rfl,eW⟩⟩⟩⟩⟩⟩
 ·refine⟨v,cxN hC a2.new xW,(c27 (hC.ext EW) hk).use ?_⟩
  rintro _ w57 ⟨v58,rfl,hC57,e57⟩
  have E57:=EW.trans e57
  refine⟨v58,rfl,(c22 hC57 (hL.ext E57) i).use ?_⟩
  rintro _ w60 ⟨s61,os',rfl,ho',hos1',hos2',e60⟩
  have hnil:os'=[]:=by
   by_cases hA:AsksP (openD (catOf x)) L i
   ·rw[hos1' ⟨hM.open,hA⟩,List.eq_nil_iff_forall_not_mem]
    intro k hk'
    obtain⟨_,g2⟩:=List.mem_filter.1 hk'
    obtain⟨_,a,o,ha,ho,hB⟩:=bq_iff.1 g2
    exact BlkP.closed hk (hM.all a (List.mem_of_getElem? ha)) (hM.all o (List.mem_of_getElem? ho)) hB
   ·exact hos2' fun h=>hA h.2
  subst hnil
  have hn':=ho'.len
  rw[List.length_map,Nat.mul_one] at hn'
  refine⟨s61,rfl,?_,E57.trans e60⟩
  rw[<-hn'];rfl
end Go.Proofs.YtlpgdngcgbeegaaGreat.Gx
namespace Go.Proofs.YtlpgdngcgbeegaaGreat.waitsLess
open Go.ChangeShapes Go.WideShapes Go.ChangeAt Go.RowKit
open Go.ChangeMaps (open_string shut_string)
set_option linter.unusedVariables false
theorem own:ownKnob Tryz.prog.godebug=none:=by kernel_rfl
set_option maxRecDepth 100000 in
theorem lifted(os:Os)(started:os.Started)(H:Type)(enc:TypeId×Value->H):
  ReturnsInHanded {} Tryz.checked os 4 .any (Rows.waitsLessSpec.pre6 enc Tryz.prog Tryz.f4 Rows.waitsLessRow.domain false) (Rows.waitsLessSpec.post enc Tryz.prog Tryz.f4 false true false false):=by
 refine returnsInHanded_of_change (C:=Tryz.checked) own started (by kernel_rfl) Tryz.func4
  (ChangeSpec.witness6 (enc:=enc) (C:=Tryz.checked) false ⟨#[],#[.agg #[.slice none 0 0,.int .i64 0,.int .i64 0,.int .i64 0,.int .i64 0,.int .i64 0,.int .i64 0,.int .i64 0,.int .i64 0,.int .i64 0,.int .i64 0,.int .i64 0,.int .i64 0,.int .i64 0,.int .i64 0,.int .i64 0,.int .i64 0],.slice none 0 0,.int .i64 0],[]⟩ 8 (by kernel_rfl) (by kernel_rfl) (by kernel_rfl) (by kernel_rfl)) ?_
 intro W base args ds gs before hval0 hW hcnd _
 have hval:∀(j:Nat) t v,Tryz.f4.params[j]? =some t->args[j]? =some v->Value.okWide Tryz.prog W .any base t v:=hval0
 have hW':=hW
 have hlt:=hW.lt
 obtain⟨p,q,hA0,hV,rfl,hfz,hnd⟩:=hW
 have hA:DataW.TrodAll enc Tryz.prog W 0 (fun _=>true) true Tryz.f4.params.toList args.toList ds p:=hA0
 have hpar:Tryz.f4.params=#[26,27,3]:=rfl
 rw[hpar] at hA hval
 obtain⟨v0,vs0,d0,ds0,p0,q0,hargs,rfl,rfl,h0,r0⟩:=trodAll_cons hA
 obtain⟨v1,vs1,d1,ds1,p1,q1,rfl,rfl,rfl,h1,r1⟩:=trodAll_cons r0
 obtain⟨v2,vs2,d2,ds2,p2,q2,rfl,rfl,rfl,h2,r2⟩:=trodAll_cons r1
 obtain⟨rfl,rfl,rfl⟩:=trodAll_nil r2
 obtain rfl:args=#[v0,v1,v2]:=by cases args;simp_all
 obtain⟨rfl,rfl⟩:=trodVars_none hV
 clear hA0 hval0
 obtain⟨x0,e0⟩:=Gx.open_arg (d:=12) (ty:=(.pair (.sl (.pair .str (.pair (.int .i64) (.pair (.sl (.pair (.sl (.pair (.int .i64) (.pair (.int .i64) (.pair (.int .i64) (.pair (.int .i64) (.pair (.pair (.int .i64) (.int .i64)) (.pair (.pair (.int .i64) (.int .i64)) (.int .i64)))))))) (.sl (.pair (.pair (.int .i64) (.int .i64)) (.pair (.pair (.int .i64) (.int .i64)) .bool))))) (.pair (.sl (.pair (.sl (.pair (.int .i64) (.pair (.int .i64) (.pair (.int .i64) (.pair (.int .i64) (.pair (.pair (.int .i64) (.int .i64)) (.pair (.pair (.int .i64) (.int .i64)) (.int .i64)))))))) (.sl (.pair (.pair (.int .i64) (.int .i64)) (.pair (.pair (.int .i64) (.int .i64)) .bool))))) .bool))))) (.arr 4 (.arr 4 (.int .i64))))) (by kernel_rfl) h0
 have f0:v0=.agg v0.cells:=Gx.val_agg (hval 0 26 v0 rfl rfl) (.inl ⟨_,Tryz.underlying26⟩)
 obtain⟨x1,e1⟩:=Gx.open_arg (d:=12) (ty:=(.sl (.pair (.int .i64) (.pair (.sl (.int .i64)) (.pair (.int .i64) (.pair (.int .i64) (.pair (.arr 4 (.int .i64)) (.int .i64)))))))) (by kernel_rfl) h1
 obtain⟨c1,g1⟩:∃c,v1.cells.toList=[c]:=List.length_eq_one_iff.1 (Gx.rep_len e1)
 have f1:v1=c1:=Gx.val_of_cells (hval 1 27 v1 rfl rfl) (fun fs n e=>by rw[Tryz.underlying27];exact⟨by simp,by simp⟩) g1
 rw[g1] at e1
 obtain⟨x2,e2⟩:=Gx.open_arg (d:=12) (ty:=(.int .i64)) (by kernel_rfl) h2
 obtain⟨c2,g2⟩:∃c,v2.cells.toList=[c]:=List.length_eq_one_iff.1 (Gx.rep_len e2)
 have f2:v2=c2:=Gx.val_of_cells (hval 2 3 v2 rfl rfl) (fun fs n e=>by rw[Tryz.underlying3];exact⟨by simp,by simp⟩) g2
 rw[g2] at e2
 have call:Calls Tryz.prog 4 #[v0,v1,v2] W fun e w'=>e=.returned (.bool true)/\Below W.heap.size W w':=by
  rw[f0,f1,f2]
  refine(Gx.waitsLess W e0 e1 e2).calls.mono ?_
  rintro e w' ⟨v,rfl,rfl,hx⟩
  exact⟨rfl,hx.below⟩
 refine call.mono fun e W' ⟨he,hg⟩=>?_
 subst he
 have b2:∀sp:Nat->Bool,(∀x∈p2,sp x.block=true)->DataW.Trod enc Tryz.prog W' 0 sp true 3 v2 d2 p2:=fun sp hsp=>Gx.trod_keep (by kernel_rfl) (by kernel_rfl) (by decide+kernel) h2 hg (fun x hx=>hlt x (by simp[hx])) hsp
 have b1:∀sp:Nat->Bool,(∀x∈p1,sp x.block=true)->DataW.Trod enc Tryz.prog W' 0 sp true 27 v1 d1 p1:=fun sp hsp=>Gx.trod_keep (by kernel_rfl) (by kernel_rfl) (by decide+kernel) h1 hg (fun x hx=>hlt x (by simp[hx])) hsp
 have b0:∀sp:Nat->Bool,(∀x∈p0,sp x.block=true)->DataW.Trod enc Tryz.prog W' 0 sp true 26 v0 d0 p0:=fun sp hsp=>Gx.trod_keep (by kernel_rfl) (by kernel_rfl) (by decide+kernel) h0 hg (fun x hx=>hlt x (by simp[hx])) hsp
 exact⟨_,rfl,Gx.post_of_below (pa:=(p0++(p1++(p2++[])))) (pv:=[]) hW' hg (fun _ _ _=>(trodAll_cons_mk (shut_bool Tryz.underlying4 _) trodAll_mk0)) (fun sp hsp=>by rw[hpar];exact(trodAll_cons_mk (b0 sp fun x hx=>hsp x (by simp[hx])) (trodAll_cons_mk (b1 sp fun x hx=>hsp x (by simp[hx])) (trodAll_cons_mk (b2 sp fun x hx=>hsp x (by simp[hx])) trodAll_mk0)))) (fun _ _=>rfl) (by simp)
  (ok_one (by kernel_rfl) rfl (okWide_bool_mk Tryz.underlying4 _))⟩
set_option maxRecDepth 100000
theorem ft1:(laidOutB Tryz.checked.prog&&mapsRowed Tryz.checked.prog)=true:=by kernel_rfl
theorem ft2:(Rows.waitsLessRow.inPlace == Tryz.checked.prog.inPlace 4)=true:=by kernel_rfl
theorem ft3:(Rows.waitsLessRow.unfollowed == Tryz.checked.prog.unfollowed 4)=true:=by kernel_rfl
theorem ft4:(Rows.waitsLessRow.named == Tryz.checked.prog.varsNamed 4)=true:=by kernel_rfl
theorem ft6:((Tryz.checked.prog.stops == [])&&(Tryz.checked.prog.stopKnobs == []))=true:=by kernel_rfl
theorem ft7:(Rows.waitsLessRow.plainKeys == Tryz.checked.prog.plainKeys)=true:=by kernel_rfl
theorem ft8:Tryz.checked.prog.stopsHeard=true:=by kernel_rfl
theorem ft9:(Tryz.checked.prog.mayEnter&&((Rows.waitsLessRow.lifted == Tryz.checked.prog.liftsFinal)&&(Tryz.checked.prog.make == some Rows.waitsLessRow.make)))=true:=by kernel_rfl
theorem ft5:(Rows.waitsLessRow.recurses == Tryz.checked.prog.recurses 4)=true:=by
 have h:Tryz.checked.prog.unfollowed 4=true:=by have:=ft3;rw[beq_iff_eq] at this;exact this.symm
 unfold Program.recurses;rw[h];rfl
theorem facts:joinedFacts Tryz.checked.prog 4 Tryz.f4 Rows.waitsLessSpec Rows.waitsLessRow=true:=by
 obtain⟨h1,h2⟩:=Bool.and_eq_true_iff.1 ft1
 obtain⟨h3,h4⟩:=Bool.and_eq_true_iff.1 ft6
 obtain⟨h5,h6⟩:=Bool.and_eq_true_iff.1 ft9
 obtain⟨h7,h8⟩:=Bool.and_eq_true_iff.1 h6
 unfold joinedFacts
 rw[h1,h2,ft2,ft3,ft4,ft5,h3,h4,ft7,ft8,h5,h7,h8]
 kernel_rfl
theorem over:Rows.waitsLessRow.holds Tryz.pinned (OpenSpec.ofChange Rows.waitsLessSpec):=
 OpenClaim.holds_of_wide 4 Tryz.f4 rfl rfl rfl rfl rfl rfl rfl ⟨rfl,rfl,rfl,rfl,rfl⟩ rfl rfl rfl rfl rfl (by kernel_rfl) Tryz.func4 facts
  (of_decide_eq_true (by kernel_rfl)) (by unfold Func.isWrapper;first|(rw[if_pos (by decide+kernel)];kernel_rfl)|(rw[if_neg (by decide+kernel)];exact⟨rfl,rfl⟩))
  (fun os started H enc _=>lifted os started H enc)
theorem proved:Rows.WaitsLessSaid:=
 over
#print axioms proved
end Go.Proofs.YtlpgdngcgbeegaaGreat.waitsLess
