import Derived.Test.YtlhchkajjpefmaaGreatDoorJ7
import Derived.Laws.StructEq
import Derived.ChangeKeysEq
import Derived.Test.YtlhchkajjpefmaaGreatDoorJ3
import Derived.Test.YtlhchkajjpefmaaGreatDoorJ5
import Derived.RegionTactic
import Derived.BigRegion
set_option maxHeartbeats 16000000
set_option maxRecDepth 100000
namespace Go.Proofs.YtlhchkajjpefmaaGreatDoor
section
open Go.RowKit
theorem or_join(i:Nat)(a b:Int)(ha:0≤a)(ha2:a<2 ^ i)(hb:0≤b)(hs:b*2 ^ i<18446744073709551616)(ha3:a<18446744073709551616):bits .or .u64 a (b*2 ^ i)=a+b*2 ^ i:=by
 obtain⟨x,rfl⟩:=Int.eq_ofNat_of_zero_le ha;obtain⟨y,rfl⟩:=Int.eq_ofNat_of_zero_le hb;have e:((y:Int)*2 ^ i)=((y*2 ^ i:Nat):Int):=by rw[Int.natCast_mul,Int.natCast_pow];rfl
 rw[e]at hs ⊢
 have hx:x<2 ^ i:=by have:((2 ^ i:Nat):Int)=(2:Int) ^ i:=by rw[Int.natCast_pow];rfl
                     rw[← this]at ha2;omega
 rw[u64_or_nat x _ (by omega) (by omega),Nat.or_comm,nat_join i (y*2 ^ i) x (Nat.mul_mod_left _ _) hx];omega
theorem or16(a b:Int)(ha:0≤a)(ha2:a<65536)(hb:0≤b)(hs:b<281474976710656):bits .or .u64 a (b*65536)=a+b*65536:=or_join 16 a b ha ha2 hb (by omega) (by omega)
theorem or32(a b:Int)(ha:0≤a)(ha2:a<4294967296)(hb:0≤b)(hs:b<4294967296):bits .or .u64 a (b*4294967296)=a+b*4294967296:=or_join 32 a b ha ha2 hb (by omega) (by omega)
theorem or48(a b:Int)(ha:0≤a)(ha2:a<281474976710656)(hb:0≤b)(hs:b<65536):bits .or .u64 a (b*281474976710656)=a+b*281474976710656:=or_join 48 a b ha ha2 hb (by omega) (by omega)
def wordsA(l:List Nat):Array Value:=(natsU l).toArray
theorem rd_part(w:World)(c:Array Value)(t:TypeId)(b n cap:Nat)(hb:b=w.heap.size)(hn:n≤cap)(hc:n≤c.size)(xs:List Value)(hx:c.toList.take n=xs):RdSl (w.alloc (.cells c t)) 1 (.slice (some ⟨b,0,none⟩) n cap) n xs:=by
 subst hb hx;refine⟨by simp;omega,_,_,rfl,hn,.inr ⟨_,0,rfl,fun j u hu=>(Blk.new w c t).cell ?_⟩⟩
 rw[List.getElem?_take]at hu
 split at hu
 ·simpa using hu
 ·cases hu
theorem below3(w:World)(o1 o2 o3:Obj):Below w.heap.size w (((w.alloc o1).alloc o2).alloc o3):=(below_twice w o1 o2).trans ((below_alloc _ o3).mono (by simp;omega))
structure Sup.Fits(s:Sup):Prop where
 g1:0≤s.gen
 g2:s.gen<18446744073709551616
 v1:0≤s.ver
 v2:s.ver≤65535
 l1:0≤s.lin
 l2:s.lin≤65535
 r1:0≤s.redo
 r2:s.redo≤65535
 u1:0≤s.und
 u2:s.und≤65535
 d1:0≤s.desc
 d2:s.desc≤65535
 q1:0≤s.que
 q2:s.que≤65535
 t1:0≤s.tab
 t2:s.tab≤65535
section
variable{w:World}
theorem encode_any(h:Nib w)(s:Sup)(hf:s.Fits):Calls Tryz.prog 201 #[.agg s.cells] w fun r w'=>r = .returned (.agg (wordsA s.words))∧Below w.heap.size w w':=by
 have H:=Lib.hid h;clear h
 have HF:=Lib.hid hf;obtain⟨g1,g2,v1,v2,l1,l2,r1,r2,u1,u2,d1,d2,q1,q2,t1,t2⟩:=hf;have e2:s.ver+s.lin*65536+s.redo*4294967296+s.und*281474976710656=(s.w2:Int):=by unfold Sup.w2;omega
 have e3:s.desc+s.que*65536+s.tab*4294967296=(s.w3:Int):=by unfold Sup.w3;omega
 have l64:s.w2<18446744073709551616:=by omega
 have l64':s.w3<18446744073709551616:=by omega
 obtain⟨gn,hgn⟩:=Int.eq_ofNat_of_zero_le g1;have E:s.words = [7738151121853964849,gn,s.w2,s.w3,0,0,0,4294967296+crcN [7738151121853964849,gn,s.w2,s.w3,0,0,0]]:=by
  have:s.gen.toNat=gn:=by omega
  unfold Sup.words Sup.first;rw[this];rfl
 have z1:=or16 s.ver s.lin v1 (by omega) l1 (by omega);have z2:=or32 (s.ver+s.lin*65536) s.redo (by omega) (by omega) r1 (by omega);have z3:=or48 (s.ver+s.lin*65536+s.redo*4294967296) s.und (by omega) (by omega) u1 (by omega);have z4:=or16 s.desc s.que d1 (by omega) q1 (by omega);have z5:=or32 (s.desc+s.que*65536) s.tab (by omega) (by omega) t1 (by omega);rw[e2]at z3;rw[e3]at z5
 have hgl:gn<18446744073709551616:=by omega
 have HE:=Lib.hid E;clear E
 generalize s.words=res at *
 generalize s.w2=n2 at *
 generalize s.w3=n3 at *
 have hcl:=crcN_lt [7738151121853964849,gn,n2,n3,0,0,0];have HC:=Lib.hid (fun wx (hx:Nib wx) sv (hr:RdSl wx 1 sv 7 (natsU [7738151121853964849,gn,n2,n3,0,0,0]))=>crcWords_any hx sv [7738151121853964849,gn,n2,n3,0,0,0] hr (by simp) (by simp;omega))
 generalize crcN [7738151121853964849,gn,n2,n3,0,0,0]=cr at *
 obtain⟨ver,lin,redo,und,desc,que,tab,gen⟩:=s;simp only at *;subst hgn;clear e2 e3 HF;unfold Sup.cells
 go_enter Tryz.func201,Tryz.ntmps201
 go_wp2_with fail
 (with_reducible refine(HC.out _ (H.out.below (below3 _ _ _ _)) _ (rd_part _ _ _ _ 7 8 (by simp) (by omega) (by simp) _ rfl)).mono ?_)
 rintro e w' ⟨rfl,rfl⟩;go_wp2_with fail
 refine bodyPost_ret (v:=.agg #[.int .u64 7738151121853964849,.int .u64 gn,.int .u64 n2,.int .u64 n3,.int .u64 0,.int .u64 0,.int .u64 0,.int .u64 (4294967296+(cr:Int))]) (by simp[results,Tryz.results201,go_sem]) rfl ⟨?_,below3 _ _ _ _⟩
 rw[HE.out]
 rfl
end
end
section
open Go.RowKit
attribute [local go_sem ↓] Go.wp_at_zero Go.wp_at_succ
def Sup.dec(a1 a2 a3:Nat):Sup:=⟨(a2%65536:Nat),(a2/65536%65536:Nat),(a2/4294967296%65536:Nat),(a2/281474976710656:Nat),(a3%65536:Nat),(a3/65536%65536:Nat),(a3/4294967296%65536:Nat),(a1:Nat)⟩
def Sup.of(W:List Nat):Sup:=Sup.dec (W.getD 1 0) (W.getD 2 0) (W.getD 3 0)
def Sup.zero:Sup:=⟨0,0,0,0,0,0,0,0⟩
def goodB(W:List Nat)(n:Nat):Bool:=(Sup.of W).okB&&decide ((Sup.of W).lin≤n)&&decide ((Sup.of W).words=W)
def decoded(W:List Nat)(n:Nat):Sup:=if goodB W n then Sup.of W else Sup.zero
theorem Sup.dec_fits(a1 a2 a3:Nat)(h1:a1<18446744073709551616)(h2:a2<18446744073709551616):(Sup.dec a1 a2 a3).Fits:=by
 constructor <;> simp only[Sup.dec] <;> omega
theorem and16(x:Nat)(h:x<18446744073709551616):bits .and .u64 (x:Int) 65535=((x%65536:Nat):Int):=by
 have:=u64_and_nat x 65535 h (by omega);rw[show 65535=2 ^ 16-1 from rfl,Nat.and_two_pow_sub_one_eq_mod]at this;exact this
theorem and16a(x:Nat)(h:x<18446744073709551616):bits .and .u64 ((x:Int)/65536) 65535=((x/65536%65536:Nat):Int):=by
 rw[show((x:Int)/65536)=((x/65536:Nat):Int)by omega];exact and16 _ (by omega)
theorem and16b(x:Nat)(h:x<18446744073709551616):bits .and .u64 ((x:Int)/4294967296) 65535=((x/4294967296%65536:Nat):Int):=by
 rw[show((x:Int)/4294967296)=((x/4294967296:Nat):Int)by omega];exact and16 _ (by omega)
theorem run_eqItems_u64(d:Nat)(fa fb:Nat→Int)(xs ys:Array Value)(w:World):∀ is:List Nat,(∀ i∈is,xs[i]? = some (.int .u64 (fa i))∧ys[i]? = some (.int .u64 (fb i)))→(Op.eqItems (d+1) 31 1 xs ys is).run Tryz.prog w = .ok (is.all fun i=>fa i==fb i) w
 | [],_=>by simp[Op.eqItems]
 | i::is,h=>by
  have h0:=h i (by simp);have ih:=run_eqItems_u64 d fa fb xs ys w is (fun j hj=>h j (by simp[hj]));have hp:Tryz.prog.plainKey 31=true:=by kernel_rfl
  simp only[Op.eqItems,Sem.run_bind,Nat.mul_one,run_part_plain w hp h0.1,run_part_plain w hp h0.2,run_equalIn_int w d 31 .u64 .u64 (fa i) (fb i) Tryz.underlying31,Result.andThen_ok]
  cases hb:fa i==fb i
  ·simp[hb]
  ·simp[hb,ih]
theorem run_neq8(w:World)(a0 a1 a2 a3 a4 a5 a6 a7 b0 b1 b2 b3 b4 b5 b6 b7:Int) :
  (binOp .neq 277 (.agg #[.int .u64 b0,.int .u64 b1,.int .u64 b2,.int .u64 b3,.int .u64 b4,.int .u64 b5,.int .u64 b6,.int .u64 b7]) (.agg #[.int .u64 a0,.int .u64 a1,.int .u64 a2,.int .u64 a3,.int .u64 a4,.int .u64 a5,.int .u64 a6,.int .u64 a7])).run Tryz.prog w =
   .ok (.bool (!(decide (b0=a0∧b1=a1∧b2=a2∧b3=a3∧b4=a4∧b5=a5∧b6=a6∧b7=a7)))) w:=by
 obtain⟨i0,hi0,_⟩:=info_parts infoU64;have hc:Tryz.prog.cellsOf 31=1:=by kernel_rfl
 have e:(Op.eqItems 9999 31 1 #[.int .u64 b0,.int .u64 b1,.int .u64 b2,.int .u64 b3,.int .u64 b4,.int .u64 b5,.int .u64 b6,.int .u64 b7] #[.int .u64 a0,.int .u64 a1,.int .u64 a2,.int .u64 a3,.int .u64 a4,.int .u64 a5,.int .u64 a6,.int .u64 a7] (List.range 8)).run Tryz.prog w =
   .ok ((List.range 8).all fun i => [b0,b1,b2,b3,b4,b5,b6,b7].getD i 0 == [a0,a1,a2,a3,a4,a5,a6,a7].getD i 0) w:=
  run_eqItems_u64 9998 (fun i => [b0,b1,b2,b3,b4,b5,b6,b7].getD i 0) (fun i => [a0,a1,a2,a3,a4,a5,a6,a7].getD i 0) _ _ w (List.range 8) (fun i hi=>by
   have:=List.mem_range.1 hi;obtain rfl | rfl | rfl | rfl | rfl | rfl | rfl | rfl:i=0∨i=1∨i=2∨i=3∨i=4∨i=5∨i=6∨i=7:=by omega
   all_goals exact⟨rfl,rfl⟩)
 rw[run_neq_struct,run_equalIn_array w 9999 _ _ Tryz.underlying277 hi0,hc,e,Result.andThen_ok]
 congr 3
 rw[Bool.eq_iff_iff];simp[List.range,List.range.loop]
structure DecSt(w:World)(c0 c1 c2:Array Value)(wx:World):Prop where
 wds:Blk wx w.heap.size c0 277
 res:Blk wx (w.heap.size+1) c1 130
 sup:Blk wx (w.heap.size+1+1) c2 130
 bel:Below w.heap.size w wx
theorem DecSt.next{w wx w1:World}{c0 c1 c2:Array Value}(h:DecSt w c0 c1 c2 wx)(hb:Below wx.heap.size wx w1):DecSt w c0 c1 c2 w1:=⟨h.wds.below hb,h.res.below hb,h.sup.below hb,h.bel.trans (hb.mono h.bel.size)⟩
theorem DecSt.start(w:World)(c0 c1 c2:Array Value):DecSt w c0 c1 c2 (((w.alloc (.cells c0 277)).alloc (.cells c1 130)).alloc (.cells c2 130)):=by
 have h1:=Blk.new (w.alloc (.cells c0 277)) c1 130;have h2:=Blk.new ((w.alloc (.cells c0 277)).alloc (.cells c1 130)) c2 130;simp only[World.size_alloc]at h1 h2;exact⟨((Blk.new w _ _).alloc _).alloc _,h1.alloc _,h2,below3 w _ _ _⟩
section
variable{w:World}
theorem DecSt.cells{w wx:World}{x1 x2 x3 x4 x5 x6 x7 a0 a1 a2 a3 a4 a5 a6 a7:Int}{c1:Array Value}(h:DecSt w #[.int .u64 a0,.int .u64 a1,.int .u64 a2,.int .u64 a3,.int .u64 a4,.int .u64 a5,.int .u64 a6,.int .u64 a7] c1 #[.int .i64 x1,.int .i64 x2,.int .i64 x3,.int .i64 x7,.int .i64 x4,.int .i64 x5,.int .i64 x6,.int .u64 a1] wx) :
  wx.cell? ⟨w.heap.size+1+1,0,none⟩=some (.int .i64 (x1))∧wx.cell? ⟨w.heap.size+1+1,1,none⟩=some (.int .i64 (x2))∧wx.cell? ⟨w.heap.size+1+1,2,none⟩=some (.int .i64 (x3))∧wx.cell? ⟨w.heap.size+1+1,3,none⟩=some (.int .i64 (x7))∧wx.cell? ⟨w.heap.size+1+1,4,none⟩=some (.int .i64 (x4))∧wx.cell? ⟨w.heap.size+1+1,5,none⟩=some (.int .i64 (x5))∧wx.cell? ⟨w.heap.size+1+1,6,none⟩=some (.int .i64 (x6))∧wx.cell? ⟨w.heap.size+1+1,7,none⟩=some (.int .u64 (a1))∧wx.cell? ⟨w.heap.size,0,none⟩=some (.int .u64 (a0))∧wx.cell? ⟨w.heap.size,1,none⟩=some (.int .u64 (a1))∧wx.cell? ⟨w.heap.size,2,none⟩=some (.int .u64 (a2))∧wx.cell? ⟨w.heap.size,3,none⟩=some (.int .u64 (a3))∧wx.cell? ⟨w.heap.size,4,none⟩=some (.int .u64 (a4))∧wx.cell? ⟨w.heap.size,5,none⟩=some (.int .u64 (a5))∧wx.cell? ⟨w.heap.size,6,none⟩=some (.int .u64 (a6))∧wx.cell? ⟨w.heap.size,7,none⟩=some (.int .u64 (a7)):=
 ⟨h.sup.cell rfl,h.sup.cell rfl,h.sup.cell rfl,h.sup.cell rfl,h.sup.cell rfl,h.sup.cell rfl,h.sup.cell rfl,h.sup.cell rfl,h.wds.cell rfl,h.wds.cell rfl,h.wds.cell rfl,h.wds.cell rfl,h.wds.cell rfl,h.wds.cell rfl,h.wds.cell rfl,h.wds.cell rfl⟩
theorem DecSt.drew{w wx:World}{c0 c1 c2:Array Value}(h:DecSt w c0 c1 c2 wx):DecSt w c0 c1 c2 wx.drew:=h.next ((Below.refl _ _).drew)
theorem below_set8{wx:World}{b B:Nat}(h:Below B w wx)(hb:B≤b)(o:Nat)(v0 v1 v2 v3 v4 v5 v6 v7:Value) :
  Below B w ((((((((wx.setCell ⟨b,o,none⟩ v0).setCell ⟨b,o+1,none⟩ v1).setCell ⟨b,o+2,none⟩ v2).setCell ⟨b,o+3,none⟩ v3).setCell ⟨b,o+4,none⟩ v4).setCell ⟨b,o+5,none⟩ v5).setCell ⟨b,o+6,none⟩ v6).setCell ⟨b,o+7,none⟩ v7):=
 (((((((h.setCell hb _).setCell hb _).setCell hb _).setCell hb _).setCell hb _).setCell hb _).setCell hb _).setCell hb _
def DecPost(w:World)(cs:Array Value)(g:Bool)(r:Ending)(w':World):Prop:=r = .returned (.tuple #[.agg (if g then cs else #[.int .i64 0,.int .i64 0,.int .i64 0,.int .i64 0,.int .i64 0,.int .i64 0,.int .i64 0,.int .u64 0]),.bool g])∧Below w.heap.size w w'
theorem decode_core(h:Nib w)(a0 a1 a2 a3 a4 a5 a6 a7 n x1 x2 x3 x4 x5 x6 x7 b0 b1 b2 b3 b4 b5 b6 b7:Nat)(ob g:Bool)(_:a1<18446744073709551616)(_:a2<18446744073709551616)(_:a3<18446744073709551616)(_:n<18446744073709551616)
  (z1:bits .and .u64 (a2:Int) 65535=(x1:Nat)) (z2:bits .and .u64 ((a2:Int)/65536) 65535=(x2:Nat)) (z3:bits .and .u64 ((a2:Int)/4294967296) 65535=(x3:Nat)) (e7:(a2:Int)/281474976710656=(x7:Nat))
  (z4:bits .and .u64 (a3:Int) 65535=(x4:Nat)) (z5:bits .and .u64 ((a3:Int)/65536) 65535=(x5:Nat)) (z6:bits .and .u64 ((a3:Int)/4294967296) 65535=(x6:Nat))
  (m1:x1<65536) (m2:x2<65536) (m3:x3<65536) (m4:x4<65536) (m5:x5<65536) (m6:x6<65536) (m7:x7<65536)
  (hV:∀ wx,Calls Tryz.prog 199 #[.agg #[.int .i64 (x1:Int),.int .i64 (x2:Int),.int .i64 (x3:Int),.int .i64 (x7:Int),.int .i64 (x4:Int),.int .i64 (x5:Int),.int .i64 (x6:Int),.int .u64 (a1:Int)]] wx fun r w'=>r = .returned (.bool ob)∧Below wx.heap.size wx w')
  (hE:∀ wx,Nib wx→Calls Tryz.prog 201 #[.agg #[.int .i64 (x1:Int),.int .i64 (x2:Int),.int .i64 (x3:Int),.int .i64 (x7:Int),.int .i64 (x4:Int),.int .i64 (x5:Int),.int .i64 (x6:Int),.int .u64 (a1:Int)]] wx fun r w'=>r = .returned (.agg #[.int .u64 (b0:Int),.int .u64 (b1:Int),.int .u64 (b2:Int),.int .u64 (b3:Int),.int .u64 (b4:Int),.int .u64 (b5:Int),.int .u64 (b6:Int),.int .u64 (b7:Int)])∧Below wx.heap.size wx w')
  (hg:g=(ob&&decide (x2≤n)&&decide (b0=a0∧b1=a1∧b2=a2∧b3=a3∧b4=a4∧b5=a5∧b6=a6∧b7=a7))) :
  Calls Tryz.prog 200 #[.agg #[.int .u64 (a0:Int),.int .u64 (a1:Int),.int .u64 (a2:Int),.int .u64 (a3:Int),.int .u64 (a4:Int),.int .u64 (a5:Int),.int .u64 (a6:Int),.int .u64 (a7:Int)],.int .u64 n] w (DecPost w #[.int .i64 (x1:Int),.int .i64 (x2:Int),.int .i64 (x3:Int),.int .i64 (x7:Int),.int .i64 (x4:Int),.int .i64 (x5:Int),.int .i64 (x6:Int),.int .u64 (a1:Int)] g):=by
 have H:=Lib.hid h;have HV:=Lib.hid hV;have HEN:=Lib.hid hE;have HG:=Lib.hid hg;clear h hV hE hg
 go_enter Tryz.func200,Tryz.ntmps200
 go_upto_region 2 with fail
 have Dw3:=Lib.hid (DecSt.start w #[.int .u64 (a0:Int),.int .u64 (a1:Int),.int .u64 (a2:Int),.int .u64 (a3:Int),.int .u64 (a4:Int),.int .u64 (a5:Int),.int .u64 (a6:Int),.int .u64 (a7:Int)] #[.int .i64 0,.int .i64 0,.int .i64 0,.int .i64 0,.int .i64 0,.int .i64 0,.int .i64 0,.int .u64 0] #[.int .i64 (x1:Int),.int .i64 (x2:Int),.int .i64 (x3:Int),.int .i64 (x7:Int),.int .i64 (x4:Int),.int .i64 (x5:Int),.int .i64 (x6:Int),.int .u64 (a1:Int)])
 generalize (((w.alloc (.cells #[.int .u64 (a0:Int),.int .u64 (a1:Int),.int .u64 (a2:Int),.int .u64 (a3:Int),.int .u64 (a4:Int),.int .u64 (a5:Int),.int .u64 (a6:Int),.int .u64 (a7:Int)] 277)).alloc (.cells #[.int .i64 0,.int .i64 0,.int .i64 0,.int .i64 0,.int .i64 0,.int .i64 0,.int .i64 0,.int .u64 0] 130)).alloc (.cells #[.int .i64 (x1:Int),.int .i64 (x2:Int),.int .i64 (x3:Int),.int .i64 (x7:Int),.int .i64 (x4:Int),.int .i64 (x5:Int),.int .i64 (x6:Int),.int .u64 (a1:Int)] 130))=w3 at *
 have N3:=Lib.hid (H.out.below Dw3.out.bel);clear z1 z2 z3 z4 z5 z6 e7
 go_cut [57] (fun u wx=>u = .bool (!g)∧DecSt w #[.int .u64 (a0:Int),.int .u64 (a1:Int),.int .u64 (a2:Int),.int .u64 (a3:Int),.int .u64 (a4:Int),.int .u64 (a5:Int),.int .u64 (a6:Int),.int .u64 (a7:Int)] #[.int .i64 0,.int .i64 0,.int .i64 0,.int .i64 0,.int .i64 0,.int .i64 0,.int .i64 0,.int .u64 0] #[.int .i64 (x1:Int),.int .i64 (x2:Int),.int .i64 (x3:Int),.int .i64 (x7:Int),.int .i64 (x4:Int),.int .i64 (x5:Int),.int .i64 (x6:Int),.int .u64 (a1:Int)] wx)
 case first=>
  have s0w3:w3.cell? ⟨w.heap.size+1+1,0,none⟩=some (.int .i64 (x1:Int)):=Dw3.out.sup.cell rfl;have s1w3:w3.cell? ⟨w.heap.size+1+1,1,none⟩=some (.int .i64 (x2:Int)):=Dw3.out.sup.cell rfl;have s2w3:w3.cell? ⟨w.heap.size+1+1,2,none⟩=some (.int .i64 (x3:Int)):=Dw3.out.sup.cell rfl;have s3w3:w3.cell? ⟨w.heap.size+1+1,3,none⟩=some (.int .i64 (x7:Int)):=Dw3.out.sup.cell rfl;have s4w3:w3.cell? ⟨w.heap.size+1+1,4,none⟩=some (.int .i64 (x4:Int)):=Dw3.out.sup.cell rfl;have s5w3:w3.cell? ⟨w.heap.size+1+1,5,none⟩=some (.int .i64 (x5:Int)):=Dw3.out.sup.cell rfl;have s6w3:w3.cell? ⟨w.heap.size+1+1,6,none⟩=some (.int .i64 (x6:Int)):=Dw3.out.sup.cell rfl;have s7w3:w3.cell? ⟨w.heap.size+1+1,7,none⟩=some (.int .u64 (a1:Int)):=Dw3.out.sup.cell rfl;have a0w3:w3.cell? ⟨w.heap.size,0,none⟩=some (.int .u64 (a0:Int)):=Dw3.out.wds.cell rfl;have a1w3:w3.cell? ⟨w.heap.size,1,none⟩=some (.int .u64 (a1:Int)):=Dw3.out.wds.cell rfl;have a2w3:w3.cell? ⟨w.heap.size,2,none⟩=some (.int .u64 (a2:Int)):=Dw3.out.wds.cell rfl;have a3w3:w3.cell? ⟨w.heap.size,3,none⟩=some (.int .u64 (a3:Int)):=Dw3.out.wds.cell rfl;have a4w3:w3.cell? ⟨w.heap.size,4,none⟩=some (.int .u64 (a4:Int)):=Dw3.out.wds.cell rfl;have a5w3:w3.cell? ⟨w.heap.size,5,none⟩=some (.int .u64 (a5:Int)):=Dw3.out.wds.cell rfl;have a6w3:w3.cell? ⟨w.heap.size,6,none⟩=some (.int .u64 (a6:Int)):=Dw3.out.wds.cell rfl;have a7w3:w3.cell? ⟨w.heap.size,7,none⟩=some (.int .u64 (a7:Int)):=Dw3.out.wds.cell rfl
  have yw:IntKind.u64.wrap (x2:Int)=(x2:Int):=IntWalk.u64_in _ (by omega)
  by_cases hok:ob=true
  ·subst hok
   by_cases hlin:x2≤n
   ·have d1:decide ((n:Int)<(x2:Int))=false:=by simp;omega
    have d1':decide (n<x2)=false:=by simp;omega
    have d1'':¬ n<x2:=by omega
    obtain⟨nb,hnb⟩:∃ nb,(!(decide ((b0:Int)=a0∧(b1:Int)=a1∧(b2:Int)=a2∧(b3:Int)=a3∧(b4:Int)=a4∧(b5:Int)=a5∧(b6:Int)=a6∧(b7:Int)=a7)))=nb:=⟨_,rfl⟩;have hneq:=fun wx=>run_neq8 wx (a0:Int) a1 a2 a3 a4 a5 a6 a7 (b0:Int) b1 b2 b3 b4 b5 b6 b7
    rw[hnb]at hneq;have HNB8:Hid (nb = !g):=by
     show nb = !g
     rw[← hnb,HG.out];simp only[hlin,decide_true,Bool.true_and]
     congr 1
     rw[decide_eq_decide];omega
    have hgu:Tryz.prog.eqGuardType Tryz.prog.depth 277=false:=by kernel_rfl
    clear hnb
    go_region_held3 (fun wx=>wx.cell? ⟨w.heap.size+1+1,0,none⟩=some (.int .i64 (x1:Int))∧wx.cell? ⟨w.heap.size+1+1,1,none⟩=some (.int .i64 (x2:Int))∧wx.cell? ⟨w.heap.size+1+1,2,none⟩=some (.int .i64 (x3:Int))∧wx.cell? ⟨w.heap.size+1+1,3,none⟩=some (.int .i64 (x7:Int))∧wx.cell? ⟨w.heap.size+1+1,4,none⟩=some (.int .i64 (x4:Int))∧wx.cell? ⟨w.heap.size+1+1,5,none⟩=some (.int .i64 (x5:Int))∧wx.cell? ⟨w.heap.size+1+1,6,none⟩=some (.int .i64 (x6:Int))∧wx.cell? ⟨w.heap.size+1+1,7,none⟩=some (.int .u64 (a1:Int))∧wx.cell? ⟨w.heap.size,0,none⟩=some (.int .u64 (a0:Int))∧wx.cell? ⟨w.heap.size,1,none⟩=some (.int .u64 (a1:Int))∧wx.cell? ⟨w.heap.size,2,none⟩=some (.int .u64 (a2:Int))∧wx.cell? ⟨w.heap.size,3,none⟩=some (.int .u64 (a3:Int))∧wx.cell? ⟨w.heap.size,4,none⟩=some (.int .u64 (a4:Int))∧wx.cell? ⟨w.heap.size,5,none⟩=some (.int .u64 (a5:Int))∧wx.cell? ⟨w.heap.size,6,none⟩=some (.int .u64 (a6:Int))∧wx.cell? ⟨w.heap.size,7,none⟩=some (.int .u64 (a7:Int))) (first | (with_reducible exact D5.out.cells) | (with_reducible exact D4.out.cells) | (with_reducible exact Dw3.out.drew.cells) | (with_reducible exact Dw3.out.cells)) (first | (go_at_call 199;(with_reducible refine(HV.out _).mono ?_);rintro e w4 ⟨rfl,bb4⟩;have D4:=Lib.hid (Dw3.out.next (bdrew bb4));have N4:=Lib.hid (N3.out.below (bdrew bb4));clear bb4) | (go_at_call 201;(with_reducible refine(HEN.out _ N4.out).mono ?_);rintro e w5 ⟨rfl,bb5⟩;have D5:=Lib.hid (D4.out.next bb5);clear bb5))
    all_goals go_wp2_with fail
    all_goals go_meet
    all_goals exact⟨by rw[HNB8.out],D5.out⟩
   ·have d1:decide ((n:Int)<(x2:Int))=true:=by simp;omega
    have d1':decide (n<x2)=true:=by simp;omega
    have d1'':n<x2:=by omega
    refine wp_region_any (by kernel_rfl) ?_
    change wpAny _ _ _ _ _ _ _ (World.drew _)
    refine wpAny_ready (rs := [0]) (by kernel_rfl) (by simp) ?_
    refine AllReady.cons rfl (fun K hK => ?_) AllReady.nil
    go_simp
    refine hK _ _ ?_
    clear hK K;refine wpAny_ready (rs := [1]) (by kernel_rfl) (by simp) ?_
    refine AllReady.cons rfl (fun K hK => ?_) AllReady.nil
    go_simp
    (with_reducible refine(HV.out _).mono ?_)
    rintro e w4 ⟨rfl,bb4⟩;have Dw4:=Lib.hid (Dw3.out.next (bdrew bb4));clear bb4
    have s1w4:w4.cell? ⟨w.heap.size+1+1,1,none⟩=some (.int .i64 (x2:Int)):=Dw4.out.sup.cell rfl
    go_simp
    refine hK _ _ ?_
    clear hK K;refine wpAny_ready (rs := [2]) (by kernel_rfl) (by simp) ?_
    refine AllReady.cons rfl (fun K hK => ?_) AllReady.nil
    go_simp
    refine hK _ _ ?_
    clear hK K;refine wpAny_ready (rs := [3]) (by kernel_rfl) (by simp) ?_
    refine AllReady.cons rfl (fun K hK => ?_) AllReady.nil
    go_simp
    refine hK _ _ ?_
    clear hK K;refine wpAny_take (i:=4) (v:=.pointer (some ⟨w.heap.size+1+1,1,none⟩)) rfl (by kernel_rfl) (by kernel_rfl) (by kernel_rfl) (fun _ _ _ h=>h) (Or.inl ⟨?_,?_⟩) ?_
    ·rfl
    ·intro w;go_simp
    refine wpAny_take (i:=7) (v:=.int .u64 (n:Int)) rfl (by kernel_rfl) (by kernel_rfl) (by kernel_rfl) (fun _ _ _ h=>h) (Or.inl ⟨?_,?_⟩) ?_
    ·rfl
    ·intro w;go_simp
    refine wpAny_ready (rs := [5]) (by kernel_rfl) (by simp) ?_
    refine AllReady.cons rfl (fun K hK => ?_) AllReady.nil
    go_simp
    refine hK _ _ ?_
    clear hK K;refine wpAny_ready (rs := [6]) (by kernel_rfl) (by simp) ?_
    refine AllReady.cons rfl (fun K hK => ?_) AllReady.nil
    go_simp
    refine hK _ _ ?_
    clear hK K;refine wpAny_ready (rs := [8]) (by kernel_rfl) (by simp) ?_
    refine AllReady.cons rfl (fun K hK => ?_) AllReady.nil
    go_simp
    refine hK _ _ ?_
    clear hK K;refine wpAny_ready (rs := [9]) (by kernel_rfl) (by simp) ?_
    refine AllReady.cons rfl (fun K hK => ?_) AllReady.nil
    go_simp
    refine hK _ _ ?_
    clear hK K;refine wpAny_ready (rs := [10]) (by kernel_rfl) (by simp) ?_
    refine AllReady.cons rfl (fun K hK => ?_) AllReady.nil
    go_simp
    refine hK _ _ ?_
    clear hK K;refine wpAny_take (i:=11) (v:=undef) rfl (by kernel_rfl) (by kernel_rfl) (by kernel_rfl) (fun _ _ _ h=>h) (Or.inr ⟨?_,rfl⟩) ?_
    ·rfl
    refine wpAny_take (i:=12) (v:=undef) rfl (by kernel_rfl) (by kernel_rfl) (by kernel_rfl) (fun _ _ _ h=>h) (Or.inr ⟨?_,rfl⟩) ?_
    ·rfl
    refine wpAny_take (i:=13) (v:=undef) rfl (by kernel_rfl) (by kernel_rfl) (by kernel_rfl) (fun _ _ _ h=>h) (Or.inr ⟨?_,rfl⟩) ?_
    ·rfl
    refine wpAny_take (i:=14) (v:=undef) rfl (by kernel_rfl) (by kernel_rfl) (by kernel_rfl) (fun _ _ _ h=>h) (Or.inr ⟨?_,rfl⟩) ?_
    ·rfl
    refine wpAny_ready (rs := [15]) (by kernel_rfl) (by simp) ?_
    refine AllReady.cons rfl (fun K hK => ?_) AllReady.nil
    go_simp
    refine hK _ _ ?_
    clear hK K;refine wpAny_done (by kernel_rfl) ?_ _
    go_wp2_with fail
    go_meet
    exact⟨by rw[HG.out];simp[hlin],Dw4.out⟩
  ·obtain rfl:ob=false:=by simpa using hok
   refine wp_region_any (by kernel_rfl) ?_
   change wpAny _ _ _ _ _ _ _ (World.drew _)
   refine wpAny_ready (rs := [0]) (by kernel_rfl) (by simp) ?_
   refine AllReady.cons rfl (fun K hK => ?_) AllReady.nil
   go_simp
   refine hK _ _ ?_
   clear hK K;refine wpAny_ready (rs := [1]) (by kernel_rfl) (by simp) ?_
   refine AllReady.cons rfl (fun K hK => ?_) AllReady.nil
   go_simp
   (with_reducible refine(HV.out _).mono ?_)
   rintro e w4 ⟨rfl,bb4⟩;have Dw4:=Lib.hid (Dw3.out.next (bdrew bb4));clear bb4
   go_simp
   refine hK _ _ ?_
   clear hK K;refine wpAny_ready (rs := [2]) (by kernel_rfl) (by simp) ?_
   refine AllReady.cons rfl (fun K hK => ?_) AllReady.nil
   go_simp
   refine hK _ _ ?_
   clear hK K;refine wpAny_ready (rs := [3]) (by kernel_rfl) (by simp) ?_
   refine AllReady.cons rfl (fun K hK => ?_) AllReady.nil
   go_simp
   refine hK _ _ ?_
   clear hK K;refine wpAny_take (i:=4) (v:=undef) rfl (by kernel_rfl) (by kernel_rfl) (by kernel_rfl) (fun _ _ _ h=>h) (Or.inr ⟨?_,rfl⟩) ?_
   ·rfl
   refine wpAny_take (i:=5) (v:=undef) rfl (by kernel_rfl) (by kernel_rfl) (by kernel_rfl) (fun _ _ _ h=>h) (Or.inr ⟨?_,rfl⟩) ?_
   ·rfl
   refine wpAny_take (i:=6) (v:=undef) rfl (by kernel_rfl) (by kernel_rfl) (by kernel_rfl) (fun _ _ _ h=>h) (Or.inr ⟨?_,rfl⟩) ?_
   ·rfl
   refine wpAny_take (i:=7) (v:=undef) rfl (by kernel_rfl) (by kernel_rfl) (by kernel_rfl) (fun _ _ _ h=>h) (Or.inr ⟨?_,rfl⟩) ?_
   ·rfl
   refine wpAny_take (i:=8) (v:=undef) rfl (by kernel_rfl) (by kernel_rfl) (by kernel_rfl) (fun _ _ _ h=>h) (Or.inr ⟨?_,rfl⟩) ?_
   ·rfl
   refine wpAny_ready (rs := [9]) (by kernel_rfl) (by simp) ?_
   refine AllReady.cons rfl (fun K hK => ?_) AllReady.nil
   go_simp
   refine hK _ _ ?_
   clear hK K;refine wpAny_ready (rs := [10]) (by kernel_rfl) (by simp) ?_
   refine AllReady.cons rfl (fun K hK => ?_) AllReady.nil
   go_simp
   refine hK _ _ ?_
   clear hK K;refine wpAny_take (i:=11) (v:=undef) rfl (by kernel_rfl) (by kernel_rfl) (by kernel_rfl) (fun _ _ _ h=>h) (Or.inr ⟨?_,rfl⟩) ?_
   ·rfl
   refine wpAny_take (i:=12) (v:=undef) rfl (by kernel_rfl) (by kernel_rfl) (by kernel_rfl) (fun _ _ _ h=>h) (Or.inr ⟨?_,rfl⟩) ?_
   ·rfl
   refine wpAny_take (i:=13) (v:=undef) rfl (by kernel_rfl) (by kernel_rfl) (by kernel_rfl) (fun _ _ _ h=>h) (Or.inr ⟨?_,rfl⟩) ?_
   ·rfl
   refine wpAny_take (i:=14) (v:=undef) rfl (by kernel_rfl) (by kernel_rfl) (by kernel_rfl) (fun _ _ _ h=>h) (Or.inr ⟨?_,rfl⟩) ?_
   ·rfl
   refine wpAny_ready (rs := [15]) (by kernel_rfl) (by simp) ?_
   refine AllReady.cons rfl (fun K hK => ?_) AllReady.nil
   go_simp
   refine hK _ _ ?_
   clear hK K;refine wpAny_done (by kernel_rfl) ?_ _
   go_wp2_with fail
   go_meet
   exact⟨by rw[HG.out];simp,Dw4.out⟩
 case rest=>
  obtain⟨rfl,hst⟩:=hcut;rename World=>wx
  have ST:=Lib.hid hst;have q0:=hst.cells.1;have q1:=hst.cells.2.1;have q2:=hst.cells.2.2.1;have q3:=hst.cells.2.2.2.1
  have q4:=hst.cells.2.2.2.2.1;have q5:=hst.cells.2.2.2.2.2.1;have q6:=hst.cells.2.2.2.2.2.2.1;have q7:=hst.cells.2.2.2.2.2.2.2.1
  have f0:=hst.res.frozen 0;have f1:=hst.res.frozen 1;have f2:=hst.res.frozen 2;have f3:=hst.res.frozen 3
  have f4:=hst.res.frozen 4;have f5:=hst.res.frozen 5;have f6:=hst.res.frozen 6;have f7:=hst.res.frozen 7
  have r0:=hst.res.cell (i:=0) rfl;have r1:=hst.res.cell (i:=1) rfl;have r2:=hst.res.cell (i:=2) rfl;have r3:=hst.res.cell (i:=3) rfl
  have r4:=hst.res.cell (i:=4) rfl;have r5:=hst.res.cell (i:=5) rfl;have r6:=hst.res.cell (i:=6) rfl;have r7:=hst.res.cell (i:=7) rfl
  clear hst N3 HV HEN H Dw3 HG
  cases g
  ·go_wp2_with fail
   refine bodyPost_ret (v:=.tuple #[.agg #[.int .i64 0,.int .i64 0,.int .i64 0,.int .i64 0,.int .i64 0,.int .i64 0,.int .i64 0,.int .u64 0],.bool false]) (by simp[results,Tryz.results200,go_sem,r0,r1,r2,r3,r4,r5,r6,r7]) rfl ⟨rfl,?_⟩
   exact below_set8 ST.out.bel (by omega) 0 _ _ _ _ _ _ _ _
  ·go_wp2_with fail
   refine bodyPost_ret (v:=.tuple #[.agg #[.int .i64 (x1:Int),.int .i64 (x2:Int),.int .i64 (x3:Int),.int .i64 (x7:Int),.int .i64 (x4:Int),.int .i64 (x5:Int),.int .i64 (x6:Int),.int .u64 (a1:Int)],.bool true]) (by simp[results,Tryz.results200,go_sem,r0,r1,r2,r3,r4,r5,r6,r7]) rfl ⟨rfl,?_⟩
   exact below_set8 ST.out.bel (by omega) 0 _ _ _ _ _ _ _ _
theorem decode_any(h:Nib w)(a0 a1 a2 a3 a4 a5 a6 a7 n:Nat)(h1:a1<18446744073709551616)(h2:a2<18446744073709551616)(h3:a3<18446744073709551616)(hn:n<18446744073709551616) :
  Calls Tryz.prog 200 #[.agg (wordsA [a0,a1,a2,a3,a4,a5,a6,a7]),.int .u64 n] w fun r w'=>r = .returned (.tuple #[.agg (decoded [a0,a1,a2,a3,a4,a5,a6,a7] n).cells,.bool (goodB [a0,a1,a2,a3,a4,a5,a6,a7] n)])∧Below w.heap.size w w':=by
 have hf:=Sup.dec_fits a1 a2 a3 h1 h2;have hE:=fun wx (hx:Nib wx)=>encode_any hx (Sup.dec a1 a2 a3) hf
 have hV:=fun wx=>valid_any (w:=wx) (Sup.dec a1 a2 a3)
 have hw:(Sup.dec a1 a2 a3).words = [7738151121853964849,a1,(Sup.dec a1 a2 a3).w2,(Sup.dec a1 a2 a3).w3,0,0,0,4294967296+crcN (Sup.dec a1 a2 a3).first]:=by
  unfold Sup.words Sup.first;rw[show(Sup.dec a1 a2 a3).gen.toNat=a1 from Int.toNat_natCast _];rfl
 rw[hw]at hE;have hg:goodB [a0,a1,a2,a3,a4,a5,a6,a7] n=((Sup.dec a1 a2 a3).okB&&decide (a2/65536%65536≤n)&&decide (7738151121853964849=a0∧a1=a1∧(Sup.dec a1 a2 a3).w2=a2∧(Sup.dec a1 a2 a3).w3=a3∧0=a4∧0=a5∧0=a6∧4294967296+crcN (Sup.dec a1 a2 a3).first=a7)):=by
  unfold goodB;rw[show Sup.of [a0,a1,a2,a3,a4,a5,a6,a7]=Sup.dec a1 a2 a3 from rfl,hw]
  congr 1
  ·congr 1
   rw[decide_eq_decide];show((a2/65536%65536:Nat):Int)≤(n:Int)↔_
   omega
  ·rw[decide_eq_decide];simp
 have hc:=decode_core h a0 a1 a2 a3 a4 a5 a6 a7 n (a2%65536) (a2/65536%65536) (a2/4294967296%65536) (a3%65536) (a3/65536%65536) (a3/4294967296%65536) (a2/281474976710656) _ _ _ _ _ _ _ _ _ _ h1 h2 h3 hn
  (and16 a2 h2) (and16a a2 h2) (and16b a2 h2) (by omega) (and16 a3 h3) (and16a a3 h3) (and16b a3 h3) (by omega) (by omega) (by omega) (by omega) (by omega) (by omega) (by omega) hV hE hg
 refine hc.mono fun r w' hp => ?_
 obtain⟨hr,hb⟩:=hp;refine⟨?_,hb⟩
 rw[hr];unfold decoded
 cases goodB [a0,a1,a2,a3,a4,a5,a6,a7] n
 ·rfl
 ·rfl
end
end

section
open Go.RowKit
def lastL:List (Nat×Int)→List (Nat×Int)
 | [] => []
 | e::l=>if l.any (fun x=>x.1==e.1)then lastL l else e::lastL l
theorem lastL_mem(l:List (Nat×Int)):∀ e∈lastL l,e∈l:=by
 induction l with
 | nil=>intro e h;simp[lastL]at h
 | cons x l ih=>
  intro e h;unfold lastL at h
  split at h
  ·exact List.mem_cons_of_mem _ (ih e h)
  ·rcases List.mem_cons.1 h with rfl | h
   ·exact List.mem_cons_self ..
   ·exact List.mem_cons_of_mem _ (ih e h)
theorem lastL_len(l:List (Nat×Int)):(lastL l).length≤l.length:=by
 induction l with
 | nil=>exact Nat.le_refl _
 | cons x l ih=>
  unfold lastL
  split
  ·simp;omega
  ·simp;omega
def finI(l:List (Nat×Int)):Nat→Nat→Int
 | 0,_=>0
 | k+1,x=>if(l.getD k (0,0)).1=x then k else finI l k x
theorem finI_ge{l:List (Nat×Int)}{i:Nat}{e:Nat×Int}(he:l[i]? = some e)(k:Nat)(hk:i<k):(i:Int)≤finI l k e.1:=by
 induction k with
 | zero=>omega
 | succ k ih=>
  unfold finI
  by_cases h:i=k
  ·subst h
   rw[if_pos (by simp[List.getD,he])];omega
  ·split
   ·omega
   ·exact ih (by omega)
theorem finI_eq{l:List (Nat×Int)}{i:Nat}{e:Nat×Int}(he:l[i]? = some e)(k:Nat)(hi:i<k)(hk:k≤l.length):finI l k e.1=i↔∀ j x,i<j→j<k→l[j]? = some x→x.1≠e.1:=by
 induction k with
 | zero=>omega
 | succ k ih=>
  by_cases h:i=k
  ·subst h
   constructor
   ·intro _ j x h1 h2;omega
   ·intro _;unfold finI;rw[if_pos (by simp[List.getD,he])]
  ·obtain⟨y,hy⟩:∃ y,l[k]? = some y:=⟨_,List.getElem?_eq_getElem (by omega)⟩
   have hyd:l.getD k (0,0)=y:=by simp[List.getD,hy]
   unfold finI;rw[hyd]
   constructor
   ·intro h1 j x h2 h3 hx
    split at h1
    ·omega
    ·rename_i hn
     by_cases hj:j=k
     ·subst hj
      rw[hy]at hx;cases hx;exact hn
     ·exact(ih (by omega) (by omega)).1 h1 j x h2 (by omega) hx
   ·intro h1
    rw[if_neg (h1 k y (by omega) (by omega) hy)];exact(ih (by omega) (by omega)).2 (fun j x h2 h3 hx=>h1 j x h2 (by omega) hx)
theorem finI_any{l:List (Nat×Int)}{i:Nat}{e:Nat×Int}(he:l[i]? = some e):(finI l l.length e.1=i)↔(l.drop (i+1)).any (fun x=>x.1==e.1)=false:=by
 have hi:i<l.length:=(List.getElem?_eq_some_iff.1 he).1;rw[finI_eq he l.length hi (Nat.le_refl _)]
 constructor
 ·intro h
  rw[List.any_eq_false];intro x hx hc;obtain⟨j,hj,rfl⟩:=List.getElem_of_mem hx;rw[List.getElem_drop]at hc;rw[List.length_drop]at hj;exact h (i+1+j) _ (by omega) (by omega) (List.getElem?_eq_getElem _) (by simpa using hc)
 ·intro h j x h1 h2 hx hc
  rw[List.any_eq_false]at h;refine h x ?_ (by simpa using hc)
  rw[List.mem_iff_getElem?];exact⟨j-(i+1),by rw[List.getElem?_drop,show i+1+(j-(i+1))=j by omega];exact hx⟩
theorem lastL_drop{l:List (Nat×Int)}{i:Nat}{e:Nat×Int}(he:l[i]? = some e):lastL (l.drop i)=(if(l.drop (i+1)).any (fun x=>x.1==e.1)=true then []else [e])++lastL (l.drop (i+1)):=by
 have hi:i<l.length:=(List.getElem?_eq_some_iff.1 he).1;have:l.drop i=e::l.drop (i+1):=by
  rw[List.drop_eq_getElem_cons hi];rw[List.getElem?_eq_getElem hi]at he;rw[Option.some.inj he]
 rw[this];show(if(l.drop (i+1)).any (fun x=>x.1==e.1)then lastL (l.drop (i+1))else e::lastL (l.drop (i+1)))=_
 split <;> rfl
def entW(W:List (Nat×Int)):List Nat:=W.flatMap fun e => [e.1,e.2.toNat]
theorem entW_len(W:List (Nat×Int)):(entW W).length=2*W.length:=by
 induction W with
 | nil=>rfl
 | cons x l ih=>simp[entW]at *;omega
theorem entW_snoc(W:List (Nat×Int))(e:Nat×Int):entW (W ++ [e])=entW W ++ [e.1,e.2.toNat]:=by simp[entW]
theorem entW_bd{W:List (Nat×Int)}(h:∀ e∈W,e.1<18446744073709551616∧0≤e.2∧e.2<18446744073709551616):∀ x∈entW W,x<18446744073709551616:=by
 intro x hx;obtain⟨e,he,h2⟩:=List.mem_flatMap.1 hx;have:=h e he;simp at h2
 rcases h2 with rfl | rfl <;> omega
def cmtN(W:List (Nat×Int)):Nat:=W.length+crcN (entW W)*4294967296
theorem cmtN_bd{W:List (Nat×Int)}(h:W.length≤96):cmtN W<18446744073709551616:=by
 have:=crcN_lt (entW W);unfold cmtN;omega
def planWs(base:Nat):List (Nat×Int)→List (Nat×Int)
 | [] => []
 | e::l=>(base,(e.1:Int))::(base+8,e.2)::planWs (base+16) l
theorem planWs_snoc(l:List (Nat×Int))(e:Nat×Int):∀ b,planWs b (l ++ [e])=planWs b l ++ [(b+16*l.length,(e.1:Int)),(b+16*l.length+8,e.2)]:=by
 induction l with
 | nil=>intro b;simp[planWs]
 | cons x l ih=>intro b;simp only[List.cons_append,planWs,ih,List.length_cons];rw[show b+16+16*l.length=b+16*(l.length+1)by omega]
theorem planWs_len(l:List (Nat×Int)):∀ b,(planWs b l).length=2*l.length:=by
 induction l with
 | nil=>intro b;rfl
 | cons x l ih=>intro b;simp only[planWs,List.length_cons,ih];omega
theorem planWs_bd(l:List (Nat×Int)):∀ b,∀ e∈planWs b l,b≤e.1∧e.1<b+16*l.length:=by
 induction l with
 | nil=>intro b e he;simp[planWs]at he
 | cons x l ih=>
  intro b e he;simp only[planWs,List.mem_cons]at he;simp only[List.length_cons]
  rcases he with rfl | rfl | h
  ·simp only;omega
  ·simp only;omega
  ·have:=ih _ e h;omega
def rFinP(off:Nat)(W:List (Nat×Int)):List (Nat×Nat×Int):=storesL W++storesL [(off,0)]
def rPlanP(off:Nat)(W:List (Nat×Int)):List (Nat×Nat×Int):=if W = []then []else(storesL (planWs (off+64) W)++storesL [(off,(cmtN W:Int))])++rFinP off W
def rAllowB(size off len o:Nat):Bool:=decide (o%8=0∧o<size∧(o<off∨off+len≤o))
def rLook(size off len:Nat)(C:Nat→Int):Nat×List (Nat×Int):=
 let c:=(C (off/8)).toNat
 let n:=c%65536
 let W:=(List.range n).map fun i=>((C (off/8+8+2*i)).toNat,C (off/8+9+2*i))
 if c=0 then(1,[])
 else if n=0∨96<n∨c/65536%65536≠0 then(3,[])
 else if crcN (entW W)≠c/4294967296 then(3,[])
 else if W.all (fun e=>rAllowB size off len e.1)then(2,W)else(3,[])
end
section
open Go.RowKit
abbrev Gr:=List (Nat×Int)×List Nat
def lineOffs(offs:List Nat):List Nat:=(linesL offs).map (64 * ·)
def storesGs(ws:List (Nat×Int)):List Gr:=if ws = []then []else [(ws,lineOffs (ws.map (·.1)))]
theorem linesL_nil{offs:List Nat}:linesL offs = []↔offs = []:=by
 constructor
 ·intro h
  match offs with
  | []=>rfl
  | o::l=>
   have:=(linesL_mem (o::l) (o/64)).2 ⟨o,by simp,rfl⟩;rw[h]at this;simp at this
 ·intro h;subst h;rfl
theorem stores_groups(ws:List (Nat×Int)):storesL ws=groupsP (storesGs ws):=by
 unfold storesL storesGs
 by_cases h:ws = []
 ·rw[if_pos h];subst h;rfl
 ·rw[if_neg h]
  unfold flushL;rw[if_neg (fun e=>h (by have:=linesL_nil.1 e;simpa using this))];simp[groupsP,groupP,lineOffs]
theorem lineOffs_lt{offs:List Nat}{n:Nat}(h:∀ o∈offs,o<64*n):∀ o∈lineOffs offs,o<64*n:=fun o ho=>by
 obtain⟨m,hm,rfl⟩:=List.mem_map.1 ho;obtain⟨p,hp,rfl⟩:=(linesL_mem _ _).1 hm;have:=h p hp;omega
theorem storesGs_ok{ws:List (Nat×Int)}{n:Nat}(h:∀ e∈ws,e.1%8=0∧e.1<64*n):∀ g∈storesGs ws,groupOk n g:=fun g hg=>by
 unfold storesGs at hg
 split at hg
 ·simp at hg
 ·simp at hg;subst hg
  refine⟨fun e he=>⟨(h e he).1,(h e he).2,64*(e.1/64),?_,by omega⟩,lineOffs_lt (fun o ho=>by obtain⟨e,he,rfl⟩:=List.mem_map.1 ho;exact(h e he).2)⟩
  exact List.mem_map.2 ⟨e.1/64,(linesL_mem _ _).2 ⟨e.1,List.mem_map.2 ⟨e,he,rfl⟩,rfl⟩,rfl⟩
theorem storesGs_flat(ws:List (Nat×Int)):(storesGs ws).flatMap (·.1)=ws:=by
 unfold storesGs
 split
 ·rename_i h;subst h;rfl
 ·simp
theorem laidG_flat(gs:List Gr):∀ (C:Nat→Int) (i:Nat),laidG C gs i=look (gs.flatMap (·.1)) (C i) i:=by
 induction gs with
 | nil=>intro C i;rfl
 | cons g gs ih=>
  intro C i;rw[laidG_cons,ih,List.flatMap_cons,look_append]
theorem look_hit(l:List (Nat×Int)):∀ (d d':Int) (i:Nat),(∃ e∈l,e.1/8=i)→look l d i=look l d' i:=by
 induction l with
 | nil=>intro d d' i h;obtain⟨e,he,_⟩:=h;simp at he
 | cons x l ih=>
  intro d d' i h
  by_cases hx:x.1/8=i
  ·have e1:∀ d,look (x::l) d i=look l x.2 i:=fun d=>by show look l (if x.1/8=i then x.2 else d) i=_;rw[if_pos hx]
   rw[e1,e1]
  ·have e1:∀ d,look (x::l) d i=look l d i:=fun d=>by show look l (if x.1/8=i then x.2 else d) i=_;rw[if_neg hx]
   rw[e1,e1];obtain⟨e,he,h2⟩:=h
   rcases List.mem_cons.1 he with rfl | he
   ·exact absurd h2 hx
   ·exact ih d d' i ⟨e,he,h2⟩
abbrev lk(C:Nat→Int):Nat×List (Nat×Int):=rLook 2560 320 1664 C
def rRes(C:Nat→Int)(i:Nat):Int:=if(lk C).1=2 then look ((lk C).2 ++ [(320,0)]) (C i) i else C i
def OutR(f g:Nat→Int):Prop:=f 40=0∧∀ i,(i<40∨248≤i)→f i=g i
def Good(X f:Nat→Int):Prop:=((lk f).1=1∨(lk f).1=2)∧OutR (rRes f) X
end
section
open Go.RowKit
theorem valP_groups{gs:List Gr}(h:∀ e∈gs.flatMap (·.1),0≤e.2∧e.2<18446744073709551616):valP (groupsP gs):=by
 intro e he h1;obtain⟨g,hg,he⟩:=List.mem_flatMap.1 he;unfold groupP at he
 rcases List.mem_append.1 he with h2 | h2
 ·rcases List.mem_append.1 h2 with h3 | h3
  ·obtain⟨x,hx,rfl⟩:=List.mem_map.1 h3
   exact h x (List.mem_flatMap.2 ⟨g,hg,hx⟩)
  ·obtain⟨x,hx,rfl⟩:=List.mem_map.1 h3;simp at h1
 ·simp at h2;subst h2;simp at h1
section
variable{D:Dev}{C:Nat→Int}{x:Nat}
end
end

section
open Go.RowKit
def cpW(C:Nat→Int)(i:Nat):List Nat := [(C (8*i)).toNat,(C (8*i+1)).toNat,(C (8*i+2)).toNat,(C (8*i+3)).toNat,(C (8*i+4)).toNat,(C (8*i+5)).toNat,(C (8*i+6)).toNat,(C (8*i+7)).toNat]
def cpG(C:Nat→Int)(n i:Nat):Bool:=goodB (cpW C i) n
def cpS(C:Nat→Int)(n i:Nat):Sup:=decoded (cpW C i) n
def newB(C:Nat→Int)(n:Nat):Bool:=cpG C n 1&&(!cpG C n 0 || decide ((cpS C n 0).gen<(cpS C n 1).gen))
def newA(C:Nat→Int)(n:Nat):Nat:=if newB C n then 1 else 0
def newG(C:Nat→Int)(n:Nat):Bool:=if newB C n then true else cpG C n 0
def newS(C:Nat→Int)(n:Nat):Sup:=cpS C n (newA C n)
def sbWs(s:Sup)(i:Nat):List (Nat×Int):=(64*i+56,0)::(List.range 8).map fun k=>(64*i+8*k,((s.words.getD k 0:Nat):Int))
def sbP(s:Sup)(i:Nat):List (Nat×Nat×Int):=storesL (sbWs s i)
def Sup.withGen(s:Sup)(g:Int):Sup:={s with gen:=g}
theorem Sup.of_words(s:Sup)(h:s.Ok)(g1:0≤s.gen):Sup.of s.words=s:=by
 obtain⟨ver,lin,redo,und,desc,que,tab,gen⟩:=s;obtain⟨v1,v2,l1,l2,r1,u1,d1,q1,t1,r2,u2,d2,q2,t2,_⟩:=h;simp only at *;show Sup.dec gen.toNat (ver+lin*65536+redo*4294967296+und*281474976710656).toNat (desc+que*65536+tab*4294967296).toNat=_
 unfold Sup.dec
 congr 1 <;> omega
theorem goodB_words(s:Sup)(h:s.Ok)(g1:0≤s.gen){n:Nat}(hn:s.lin≤n):goodB s.words n=true∧decoded s.words n=s:=by
 have hg:goodB s.words n=true:=by
  unfold goodB;rw[Sup.of_words s h g1,Sup.okB_true h];simp[hn]
 exact⟨hg,by unfold decoded;rw[if_pos hg,Sup.of_words s h g1]⟩
theorem goodB_seven{W:List Nat}{n:Nat}(h:W.getD 7 0=0):goodB W n=false:=by
 unfold goodB
 by_cases hw:(Sup.of W).words=W
 ·have h7:(Sup.of W).words.getD 7 0=4294967296+crcN (Sup.of W).first:=rfl
  rw[hw,h]at h7;omega
 ·simp[hw]
theorem of_gen(W:List Nat):(Sup.of W).gen=(W.getD 1 0:Nat):=rfl
theorem cpW_congr{C C':Nat→Int}{i:Nat}(h:∀ x,8*i≤x→x<8*i+8→C x=C' x):cpW C i=cpW C' i:=by
 unfold cpW;rw[h (8*i) (by omega) (by omega),h (8*i+1) (by omega) (by omega),h (8*i+2) (by omega) (by omega),h (8*i+3) (by omega) (by omega),h (8*i+4) (by omega) (by omega),h (8*i+5) (by omega) (by omega),h (8*i+6) (by omega) (by omega),h (8*i+7) (by omega) (by omega)]
theorem sbWs_line(s:Sup)(i n:Nat)(hi:i<n):∀ e∈sbWs s i,e.1%8=0∧e.1<64*n∧e.1/64=i:=by
 intro e he;unfold sbWs at he
 rcases List.mem_cons.1 he with rfl | he
 ·exact⟨by simp only;omega,by simp only;omega,by simp only;omega⟩
 ·obtain⟨k,hk,rfl⟩:=List.mem_map.1 he
  have:=List.mem_range.1 hk;exact⟨by simp only;omega,by simp only;omega,by simp only;omega⟩
theorem sbWs_eq(s:Sup)(i:Nat):sbWs s i = [(64*i+56,0),(64*i,((s.words.getD 0 0:Nat):Int)),(64*i+8,((s.words.getD 1 0:Nat):Int)),(64*i+16,((s.words.getD 2 0:Nat):Int)),(64*i+24,((s.words.getD 3 0:Nat):Int)),(64*i+32,((s.words.getD 4 0:Nat):Int)),(64*i+40,((s.words.getD 5 0:Nat):Int)),(64*i+48,((s.words.getD 6 0:Nat):Int)),(64*i+56,((s.words.getD 7 0:Nat):Int))]:=rfl
theorem look_sb(s:Sup)(i:Nat)(C:Nat→Int):(∀ q,q<8→look (sbWs s i) (C (8*i+q)) (8*i+q)=((s.words.getD q 0:Nat):Int))∧∀ k,1≤k→k≤8→look ((sbWs s i).take k) (C (8*i+7)) (8*i+7)=0:=by
 have hd:∀ k,(64*i+8*k)/8=8*i+k:=fun k=>by omega
 constructor
 ·intro q hq
  rw[sbWs_eq];simp only[look,List.foldl_cons,List.foldl_nil];obtain rfl | rfl | rfl | rfl | rfl | rfl | rfl | rfl:q=0∨q=1∨q=2∨q=3∨q=4∨q=5∨q=6∨q=7:=by omega
  all_goals
   repeat rw[if_neg (by omega)]
   try rw[if_pos (by omega)]
   try (repeat rw[if_neg (by omega)])
 ·intro k h1 h8
  rw[sbWs_eq];obtain rfl | rfl | rfl | rfl | rfl | rfl | rfl | rfl:k=1∨k=2∨k=3∨k=4∨k=5∨k=6∨k=7∨k=8:=by omega
  all_goals
   simp only[List.take_succ_cons,List.take_zero,look,List.foldl_cons,List.foldl_nil]
   repeat rw[if_neg (by omega)]
   rw[if_pos (by omega)]
theorem look_sb_other(s:Sup)(i k:Nat)(C:Nat→Int)(x:Nat)(hx:x/8≠i):look ((sbWs s i).take k) (C x) x=C x:=
 look_other _ _ _ (fun e he h=>by have:=(sbWs_line s i (i+1) (by omega) e (List.mem_of_mem_take he)).2.2;omega)
theorem cp_part(s:Sup)(i k:Nat)(C F:Nat→Int)(hk:k≤9)(hF:∀ x,F x=look ((sbWs s i).take k) (C x) x) :
  (∀ j,j≠i→cpW F j=cpW C j)∧(cpW F i=cpW C i∨(cpW F i).getD 7 0=0∨cpW F i=s.words)∧(k=9→cpW F i=s.words):=by
 have hfull:k=9→cpW F i=s.words:=by
  rintro rfl;have hq:∀ q,q<8→F (8*i+q)=((s.words.getD q 0:Nat):Int):=fun q hq=>by
   rw[hF];rw[List.take_of_length_le (by rw[sbWs_eq];simp)];exact(look_sb s i C).1 q hq
  have h0:=hq 0 (by omega);rw[Nat.add_zero]at h0;unfold cpW;rw[h0,hq 1 (by omega),hq 2 (by omega),hq 3 (by omega),hq 4 (by omega),hq 5 (by omega),hq 6 (by omega),hq 7 (by omega)];simp only[Int.toNat_natCast]
  rfl
 refine⟨fun j hj=>cpW_congr (fun x h1 h2 => ?_),?_,hfull⟩
 ·rw[hF];exact look_sb_other s i k C x (by omega)
 ·by_cases h0:k=0
  ·left;subst h0;exact cpW_congr (fun x _ _=>by rw[hF];rfl)
  ·by_cases h9:k=9
   ·exact .inr (.inr (hfull h9))
   ·right;left
    have h7:=(look_sb s i C).2 k (by omega) (by omega);show(F (8*i+7)).toNat=0
    rw[hF,h7];rfl
end

section
open Go.RowKit
section
variable{w:World}
def WrU(w:World)(g o c:Nat)(xs:List Int):Prop:=OwnSl w 31 1 (.slice (some ⟨g,o,none⟩) xs.length c) xs.length (intsU xs)
theorem WrU.cell{g o c:Nat}{xs:List Int}(h:WrU w g o c xs)(i:Nat)(hi:i<xs.length):w.cell? ⟨g,o+i,none⟩=some (.int .u64 (at0 xs i)):=by
 obtain⟨_,a,c',e,_,h2⟩:=OwnSl.rd h
 cases e
 have hx:(intsU xs)[i]? = some (.int .u64 (at0 xs i)):=by simp[intsU,at0,List.getD,hi]
 rcases h2 with h2 | ⟨b,o',e,h3⟩
 ·rw[h2]at hx;simp at hx
 ·cases e;exact h3 i _ hx
theorem WrU.blk{g o c:Nat}{xs:List Int}(h:WrU w g o c xs):∃ cur,Blk w g cur 31:=by
 rcases h.2 with ⟨e,_⟩ | ⟨g',o',cap,cur,e,hb,_⟩
 ·cases e
 ·cases e;exact⟨cur,hb⟩
theorem WrU.frozen{g o c:Nat}{xs:List Int}(h:WrU w g o c xs)(i:Nat):w.frozen? ⟨g,i,none⟩=false:=by obtain⟨cur,hb⟩:=h.blk;exact hb.frozen i
theorem WrU.lt{g o c:Nat}{xs:List Int}(h:WrU w g o c xs):g<w.heap.size:=by obtain⟨cur,hb⟩:=h.blk;exact hb.lt
theorem WrU.le{g o c:Nat}{xs:List Int}(h:WrU w g o c xs):xs.length≤c∧xs.length≤maxLen:=by
 rcases h.2 with ⟨e,_⟩ | ⟨g',o',cap,cur,e,hb,h1,h2,_⟩
 ·cases e
 ·cases e;exact⟨h1,Nat.le_trans h1 h2⟩
theorem WrU.set{g o c:Nat}{xs:List Int}(h:WrU w g o c xs)(i:Nat)(_hi:i<xs.length)(x:Int):WrU (w.setCell ⟨g,o+i,none⟩ (.int .u64 x)) g o c (xs.set i x):=by
 rcases h.2 with ⟨e,_⟩ | ⟨g',o',cap,cur,e,hb,h1,h2,h3,h4⟩
 ·cases e
 ·cases e
  refine⟨by simp[intsU],.inr ⟨g,o,c,cur.setIfInBounds (o+i) (.int .u64 x),by rw[List.length_set],hb.set (o+i) _,by rw[List.length_set];exact h1,h2,by simpa using h3,?_⟩⟩
  rw[List.length_set,Array.toList_setIfInBounds,List.drop_set,if_neg (by omega),List.take_set,h4,show o+i-o=i by omega,intsU,intsU,List.map_set]
theorem WrU.drew{g o c:Nat}{xs:List Int}(h:WrU w g o c xs):WrU w.drew g o c xs:=OwnSl.drew h
theorem WrU.drewN{g o c:Nat}{xs:List Int}(h:WrU w g o c xs)(n:Nat):WrU (w.drewN n) g o c xs:=OwnSl.kept h (fun _ _=>rfl)
theorem less_any(x y:Int):Calls Tryz.prog 241 #[.int .u64 x,.int .u64 y] w fun r w'=>r = .returned (.bool (decide (x<y)))∧w=w':=by
 have h1:(x != x)=false:=by simp
 go_enter Tryz.func241,Tryz.ntmps241
 go_wp2
 go_ret
 exact⟨rfl,rfl⟩
theorem less_is(x y:Int)(b:Bool)(hb:decide (x<y)=b)(wx:World):Calls Tryz.prog 241 #[.int .u64 x,.int .u64 y] wx fun r w'=>r = .returned (.bool b)∧w'=wx:=by
 have:=less_any (w:=wx) x y;rw[hb]at this;exact this.mono fun _ _ h=>⟨h.1,h.2.symm⟩
theorem WrU.upd{w':World}{g o c:Nat}{xs:List Int}(h:WrU w g o c xs){S:Nat→Prop}(hu:Upd S w w')(hS:¬ S g):WrU w' g o c xs:=OwnSl.upd h hu (fun k hk=>by simp[Value.ownBlock]at hk;subst hk;exact hS)
def SortPost(w:World)(g o c:Nat)(xs:List Int)(a b:Nat)(w':World):Prop:=∃ ys,Mixed xs ys a b∧ascOn ys a b∧WrU w' g o c ys∧Upd (fun k=>k=g) w w'
def InsMid(w:World)(g o c:Nat)(xs:List Int)(a b i:Nat)(wr:World):Prop:=∃ ys,Mixed xs ys a b∧ascOn ys a i∧WrU wr g o c ys∧Upd (fun k=>k=g) w wr
def InsMid2(w:World)(g o c:Nat)(xs:List Int)(a b i j:Nat)(wr:World):Prop:=∃ ys,Mixed xs ys a b∧insInv ys a i j∧WrU wr g o c ys∧Upd (fun k=>k=g) w wr
theorem insMid_drew{g o c a b k j:Nat}{xs zs:List Int}{wr wq:World}{nq:Nat}(h:Mixed xs zs a b∧insInv zs a k j∧WrU wr g o c zs∧Upd (fun k=>k=g) w wr)(hq:wr.drewN nq=wq) :
  Mixed xs zs a b∧insInv zs a k j∧WrU wq g o c zs∧Upd (fun k=>k=g) w wq:=by
 subst hq;exact⟨h.1,h.2.1,h.2.2.1.drewN _,⟨h.2.2.2.os,h.2.2.2.tape,h.2.2.2.output,h.2.2.2.size,h.2.2.2.block⟩⟩
theorem insMid_next{g o c a b k j:Nat}{xs zs:List Int}{wq:World}(h:Mixed xs zs a b∧insInv zs a k j∧WrU wq g o c zs∧Upd (fun k=>k=g) w wq)(hk:k<b)(h1:a≤j)(h2:j≤k)(h3:j=a∨at0 zs (j-1)≤at0 zs j) :
  InsMid w g o c xs a b (min (k+1) b) wq:=⟨zs,h.1,by rw[show min (k+1) b=k+1 by omega];exact insInv_end zs a k j h.2.1 h1 h2 h3,h.2.2.1,h.2.2.2⟩
theorem insMid_swap{g o c a b k j:Nat}{xs zs:List Int}{wq wx:World}(h:Mixed xs zs a b∧insInv zs a k j∧WrU wq g o c zs∧Upd (fun k=>k=g) w wq)(h1:a<j)(h2:j≤k)(h3:k<zs.length)(hkb:k<b)(hlt:at0 zs j<at0 zs (j-1))
  (hx:wx=((wq.setCell ⟨g,o+j,none⟩ (.int .u64 (at0 zs (j-1)))).setCell ⟨g,o+(j-1),none⟩ (.int .u64 (at0 zs j))).drew):InsMid2 w g o c xs a b k (j-1) wx:=by
 subst hx;refine⟨swp zs j (j-1),h.1.trans (swp_mixed zs j (j-1) a b (by omega) (by omega) (by omega) (by omega) (by omega) (by omega)),insInv_step zs a k j h.2.1 h1 h2 h3 hlt,?_,
  (h.2.2.2.setCell (p:=⟨g,o+j,none⟩) (fun _=>rfl) _).setCell (p:=⟨g,o+(j-1),none⟩) (fun _=>rfl) _ |>.drew⟩
 exact((h.2.2.1.set j (by omega) _).set (j-1) (by rw[List.length_set];omega) _).drew
theorem insertion_any(g o c a b:Nat)(xs:List Int)(h:WrU w g o c xs)(hab:a≤b)(hb:b≤xs.length)(hs:xs.length≤4611686018) :
  Calls Tryz.prog 235 #[.slice (some ⟨g,o,none⟩) xs.length c,.int .i64 a,.int .i64 b] w fun r w'=>r = .returned (.tuple #[])∧SortPost w g o c xs a b w':=by
 have hm:=h.le;unfold maxLen at hm;have H:=Lib.hid h;clear h
 generalize hn:xs.length=n at *
 have HN:=Lib.hid hn;clear hn
 go_enter Tryz.func235,Tryz.ntmps235
 go_wp2_with fail
 go_loopw [6,7] (fun i _ wr=>∃ k:Nat,a<k∧(k≤b∨k=a+1)∧i = .int .i64 k∧InsMid w g o c xs a b (min k b) wr) (fun i _ _=>b+1-(intOf i).toNat)
 case atStart=>exact⟨a+1,by omega,.inr rfl,by go_num,xs,Mixed.refl _ _ _,fun p q h1 h2 h3=>by omega,H.out,Upd.refl _ _⟩
 case round=>
  obtain⟨k,hk1,hk2,rfl,ys,m1,a1,w1,u1⟩:=hrel;have M:=Lib.hid (And.intro m1 (And.intro a1 (And.intro w1 u1)));clear m1 a1 w1 u1
  by_cases hlt:k<b
  ·obtain⟨wo,hwo⟩:∃ wo:World,wo=wr:=⟨_,rfl⟩
   subst hwo;go_wp2_with fail
   go_loopw [7] (fun x wr=>∃ j:Nat,a≤j∧j≤k∧x = .int .i64 j∧InsMid2 w g o c xs a b k j wr) (fun x _=>(intOf x).toNat)
   case atStart=>exact⟨k,by omega,Nat.le_refl _,rfl,ys,M.out.1,insInv_start ys a k (by have:=M.out.2.1;rw[show min k b=k by omega]at this;exact this),M.out.2.2.1,M.out.2.2.2⟩
   case round=>
    obtain⟨j,hj1,hj2,rfl,zs,m2,i2,w2,u2⟩:=hrel;have hzl:zs.length=n:=by rw[m2.len,HN.out]
    have Z:=Lib.hid (And.intro m2 (And.intro i2 (And.intro w2 u2)));have HZL:=Lib.hid hzl;clear M
    by_cases hja:a<j
    ·have g1:(a:Int)<j:=by omega
     have c1:=w2.cell j (by omega);have c2:=w2.cell (j-1) (by omega);have hgs:=w2.lt;have f1:=w2.frozen (o+j);have f2:=w2.frozen (o+(j-1))
     have hi1:IntKind.i64.wrap ((j:Int)-1)=(j:Int)-1:=IntWalk.i64_in _ (by omega);have hi2:((j:Int)-1).toNat=j-1:=by omega
     have hi3:(0:Int)≤(j:Int)-1:=by omega
     have hi4:(1:Int)≤(j:Int):=by omega
     have hi5:(j:Int)<n:=by omega
     have hi6:(j:Int)-1<n:=by omega
     clear m2 i2 w2 u2 hzl
     by_cases hl:at0 zs j<at0 zs (j-1)
     all_goals have HLT:=Lib.hid hl
     ·have hd:decide (at0 zs j<at0 zs (j-1))=true:=by simpa using hl
      have LQ:=Lib.hid (less_is _ _ _ hd);clear hd hl
      go_wp2_with fail
      go_quiet ((go_at_call 241;exact Calls.quiet_of_same (LQ.out _)))
      go_wp2_with fail
      obtain⟨wq,hwq⟩:∃ wq,wr.drewN nq=wq:=⟨_,rfl⟩;rw[hwq];have Zq:=Lib.hid (insMid_drew Z.out hwq);have d1:=Zq.out.2.2.1.cell j (by rw[HZL.out];omega);have d2:=Zq.out.2.2.1.cell (j-1) (by rw[HZL.out];omega)
      have e1:=Zq.out.2.2.1.frozen (o+j);have e2:=Zq.out.2.2.1.frozen (o+(j-1))
      have hgq:=Zq.out.2.2.1.lt;have hne:¬ o+(j-1)=o+j:=by omega
      clear c1 c2 f1 f2 hgs Z LQ hwq
      go_region
      all_goals go_wp2_with fail
      all_goals
       go_roundw
       case rel=>exact⟨j-1,by omega,by omega,by go_num,insMid_swap Zq.out (by omega) (by omega) (by rw[HZL.out];omega) (by omega) HLT.out rfl⟩
       case measure=>simp[intOf];omega
     ·have hd:decide (at0 zs j<at0 zs (j-1))=false:=by simpa using hl
      have LQ:=Lib.hid (less_is _ _ _ hd);clear hd hl
      go_wp2_with fail
      go_quiet ((go_at_call 241;exact Calls.quiet_of_same (LQ.out _)))
      go_wp2_with fail
      go_roundw
      case rel=>exact⟨k+1,by omega,by omega,by go_num,insMid_next (insMid_drew Z.out rfl) (by omega) hj1 hj2 (.inr (by have:=HLT.out;omega))⟩
      case measure=>simp[intOf];omega
    ·have g1:decide ((a:Int)<j)=false:=by simp;omega
     clear m2 i2 w2 u2 hzl;go_wp2_with fail
     go_quiet (fail)
     go_wp2_with fail
     go_roundw
     case rel=>exact⟨k+1,by omega,by omega,by go_num,insMid_next (insMid_drew Z.out rfl) (by omega) hj1 hj2 (.inl (by omega))⟩
     case measure=>simp[intOf];omega
  ·go_wp2_with fail
   go_end0
   refine⟨rfl,ys,M.out.1,?_,M.out.2.2.1,M.out.2.2.2⟩
   have:=M.out.2.1;rw[show min k b=b by omega]at this;exact this
theorem bitsLen_small(n:Nat)(hn:n<256):Calls Tryz.prog 221 #[.int .u64 n] w fun r w'=>∃ k:Int,r = .returned (.int .i64 k)∧w=w':=
 (Tryz.bits_Len n w (by omega) (by omega)).mono fun _ _ h=>⟨_,h.1,h.2.symm⟩
theorem insertion_nil:Calls Tryz.prog 235 #[.slice none 0 0,.int .i64 0,.int .i64 0] w fun r w'=>r = .returned (.tuple #[])∧w=w':=by
 go_enter Tryz.func235,Tryz.ntmps235
 go_wp2_with fail
 go_loop [6] (fun i=>i = .int .i64 1) (fun _=>0)
 case atStart=>rfl
 case round=>
  subst hrel;go_wp2_with fail
  go_end0
  exact⟨rfl,rfl⟩
theorem pdq_nil(lim:Int):Calls Tryz.prog 220 #[.slice none 0 0,.int .i64 0,.int .i64 0,.int .i64 lim] w fun r w'=>r = .returned (.tuple #[])∧w=w':=by
 have HI:=Lib.hid (insertion_nil (w:=w))
 go_enter Tryz.func220,Tryz.ntmps220
 go_wp2_with fail
 go_loopw [1,2] (fun x y wr=>x = .int .i64 0∧y = .int .i64 0∧w=wr) (fun _ _ _=>0)
 case atStart=>exact⟨rfl,rfl,rfl⟩
 case round=>
  obtain⟨rfl,rfl,rfl⟩:=hrel;go_wp2_with fail
  (with_reducible refine HI.out.mono ?_)
  rintro e w1 ⟨rfl,rfl⟩;go_wp2_with fail
  (try simp only[Exit.inBlock,Exit.then]);refine bodyPost_ret (results_none rfl _ _ _) rfl ?_
  exact⟨rfl,rfl⟩
theorem sort_nil:Calls Tryz.prog 192 #[.slice none 0 0] w fun r w'=>r = .returned (.tuple #[])∧w=w':=by
 have HP:=Lib.hid (fun lim=>pdq_nil (w:=w) lim);have hL:=bitsLen_small (w:=w) 0 (by omega);rw[show((0:Nat):Int)=0 from rfl]at hL;have HL:=Lib.hid hL;clear hL
 go_enter Tryz.func192,Tryz.ntmps192
 go_wp2_with fail
 (with_reducible refine HL.out.mono ?_)
 rintro e w' ⟨k,rfl,rfl⟩;go_wp2_with fail
 (with_reducible refine(HP.out _).mono ?_)
 rintro e w1 ⟨rfl,rfl⟩;go_wp2_with fail
 go_end0
 exact⟨rfl,rfl⟩
end
end
end Go.Proofs.YtlhchkajjpefmaaGreatDoor
