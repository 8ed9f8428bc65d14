import Derived.Test.YtlhchkajjpefmaaGreatDoorJ18
import Derived.Test.YtlhchkajjpefmaaGreatDoorJ13
import Derived.Test.YtlhchkajjpefmaaGreatDoorJ12
import Derived.Test.YtlhchkajjpefmaaGreatDoorJ3
import Derived.Test.YtlhchkajjpefmaaGreatDoorJ4
import Derived.Test.YtlhchkajjpefmaaGreatDoorJ11
import Derived.Test.YtlhchkajjpefmaaGreatDoorJ8
import Derived.Deep.Cut
import Derived.Deep.CutRange
import Derived.Deep.RegionWith
import Derived.Deep.RegionHeld3
set_option maxHeartbeats 16000000
set_option maxRecDepth 100000
namespace Go.Proofs.YtlhchkajjpefmaaGreatDoor
section
open Go.RowKit Go.Maps
attribute [local go_sem ↓] Go.wp_at_zero Go.wp_at_succ
instance (x n i:Nat):Decidable (goodNib x n i):=by unfold goodNib;infer_instance
instance (x:Nat):Decidable (parseOk x):=by unfold parseOk;infer_instance
instance (W:Nat→Int) (s:List Nat) (n:Nat):Decidable (ascC W s n):=by
 unfold ascC;exact decidable_of_iff (∀ i,i<n→0<i→keyAt W s (i-1)<keyAt W s i) ⟨fun h i a b=>h i b a,fun h i a b=>h i b a⟩
instance (W:Nat→Int) (s:List Nat) (n:Nat):Decidable (validC W s n):=by unfold validC;infer_instance
instance (W:Nat→Int) (n:Nat):Decidable (nodeOk W n):=by unfold nodeOk;infer_instance
def lfW(F:Nat→Int)(i:Nat):Int:=F (192+i)
def lfE(i:Nat):Int:=encW [5] [1] 0 0 false i
def lfWs(k:Nat):List (Nat×Int):=(List.range k).map fun i=>(1536+8*i,lfE i)
def lfSetP:List (Nat×Nat×Int):=storesL (lfWs 28)
def entL1(F:Nat→Int):List (Int×Int):=entsW (lfW F) (slotsW (lfW F))
def putL1(F:Nat→Int)(k x:Int):List (Nat×Nat×Int):=putNew (lfW F) 1536 k x (findIdx (lfW F) k (slotsW (lfW F))) (unusedN (slotsW (lfW F)))
def gLf(F:Nat→Int)(e:Bool):Bool:=decide (nodeOk (lfW F) 4096)&&(expB (entL1 F) e&&decide (entL1 (lookI (putL1 F 7 3) F)=entL1 F ++ [(7,3)]))
def okqB(e:Nat×Nat×Int):Bool:=decide (1≤e.1)&&(decide (e.1≤3)&&(decide (e.2.1%8=0)&&(decide (e.2.1<4096)&&(decide (0≤e.2.2)&&decide (e.2.2<18446744073709551616)))))
theorem okqB_ok{e:Nat×Nat×Int}(h:okqB e=true){n:Nat}(hn:64≤n):OkQ n e:=by
 unfold okqB at h;simp only[Bool.and_eq_true,decide_eq_true_eq]at h;obtain⟨h1,h2,h3,h4,h5,h6⟩:=h;exact⟨h1,h2,h3,by omega,h5,h6⟩
structure LfPut(F:Nat→Int)(k x:Int):Prop where
 ok:nodeOk (lfW F) 4096
 nf:foundB (lfW F) k (slotsW (lfW F))=false
 len:(slotsW (lfW F)).length<12
 q:∀ e∈putL1 F k x,okqB e=true
 ql:(putL1 F k x).length≤20
 ok2:nodeOk (lfW (lookI (putL1 F k x) F)) 4096
 nx2:lookI (putL1 F k x) F 193=0
structure OkLf(F:Nat→Int):Prop where
 nx:F 193=0
 nh:F 195=0
 put:nodeOk (lfW F) 4096→expB (entL1 F) false=true→LfPut F 7 3
theorem nodeOk_n{W:Nat→Int}(h:W 1=0)(a b:Nat):nodeOk W a↔nodeOk W b:=by
 unfold nodeOk validC;simp[h]
section
variable{w:World}{v:DV}{own:Nat→Option Role}{D:Dev}{g n x:Nat}{C F:Nat→Int}
theorem nodeW_lf(h:D.cur=F):nodeW D 562954248388800=lfW F:=by
 funext i
 unfold nodeW lfW;rw[h]
 rfl
theorem OnC.node(h:OnC D n F x)(hd:IsDev w v own D)(hn:64≤n):NodeAt w v own D 0 562954248388800 where
 dev:=hd
 hj:=by omega
 hp:=by omega
 hp0:=by omega
 on:=h.off
 err:=h.err
 range:=by rw[h.dn];show 1536+224≤_;omega
 hW:=fun i _=>h.vb.cur _
def LfBox(w:World)(g:Nat):Prop:=Blk w g #[.func (.func 121) #[] #[]] 195
theorem LfBox.below{w':World}(h:LfBox w g)(hb:Below w.heap.size w w'):LfBox w' g:=Blk.below h hb
theorem LfBox.cell(h:LfBox w g):w.cell? ⟨g,0,none⟩=some (.func (.func 121) #[] #[]):=Blk.cell h rfl
theorem ncLf1_any:Calls Tryz.prog 121 #[(.iface 40 (.pointer (some ⟨v.tb 0,0,none⟩)))] w fun r w'=>r = .returned (.agg #[(.iface 40 (.pointer (some ⟨v.tb 0,0,none⟩))),.int .u64 562954248388800])∧Below w.heap.size w w':=by
 have H1:Hid (∀ wx,Calls Tryz.prog 73 #[.int .u64 1536,.int .u16 1,.int .u8 2] wx fun r w'=>r = .returned (.tuple #[.int .u64 562954248388800,.int .i64 0])∧wx=w'):=Lib.hid (fun wx=>make_any (w:=wx) 1536 (by omega) (by omega) (by omega));have H2:Hid (∀ wx,Calls Tryz.prog 74 #[(.iface 40 (.pointer (some ⟨v.tb 0,0,none⟩))),.int .u64 562954248388800] wx fun r w'=>r = .returned (.agg #[(.iface 40 (.pointer (some ⟨v.tb 0,0,none⟩))),.int .u64 562954248388800])∧Below wx.heap.size wx w'):=Lib.hid (fun wx=>at_any (w:=wx) _ _ (.inr ⟨_,_,rfl⟩));have K0:=Lib.hid (Blk.new w #[.nilIface,.int .u64 0] 154);have B0:=Lib.hid (below_alloc w (.cells #[.nilIface,.int .u64 0] 154))
 go_enter Tryz.func121,Tryz.ntmps121
 go_wp2_with fail
 (with_reducible refine(H1.out _).mono ?_)
 rintro r w1 ⟨rfl,rfl⟩;go_wp2_with fail
 (with_reducible refine(H2.out _).mono ?_)
 rintro r w1 ⟨rfl,b1⟩;have K1:=Lib.hid (K0.out.below b1);have B1:=Lib.hid (B0.out.trans (b1.mono B0.out.size));have r0:=K1.out.cell (i:=0) rfl;have r1:=K1.out.cell (i:=1) rfl
 have f0:=K1.out.frozen 0;have f1:=K1.out.frozen 1
 clear b1;go_wp2_with fail
 refine bodyPost_ret (v:=.agg #[(.iface 40 (.pointer (some ⟨v.tb 0,0,none⟩))),.int .u64 562954248388800]) (by simp[results,Tryz.results121,go_sem,r0,r1]) rfl ⟨rfl,?_⟩
 exact(B1.out.setCell (Nat.le_refl _) _).setCell (Nat.le_refl _) _
theorem lf_plan(hd:IsDev w v own D)(h:OnC D n F x)(hn:64≤n)(hF:F 193=0)(h3:F 195=0)(k y:Int)(P:LfPut F k y) :
  Calls Tryz.prog 75 #[.agg #[(.iface 40 (.pointer (some ⟨v.tb 0,0,none⟩))),.int .u64 562954248388800],.int .u64 k,.int .u64 y] w fun r w'=>∃ sv,r = .returned (.tuple #[sv,.int .i64 0])∧Acc w w.heap.size w' 73 3 sv (putL1 F k y).length (instrC (putL1 F k y)):=by
 have hN:=h.node hd hn;have hw:=nodeW_lf h.cur;have:=planPut_new (w:=w) (v:=v) (own:=own) (D:=D) (j:=0) (p:=562954248388800) hN k y (by rw[hw,h.dn];exact(nodeOk_n hF _ _).1 P.ok) (by rw[hw];intro h;have:=h.1;have e:lfW F 3=F 195:=rfl;omega) (by rw[hw];exact P.nf) (by rw[hw];exact P.len);rw[hw]at this;refine this.mono ?_
 rintro r w' ⟨hb,pv,rfl,ho,hg⟩;exact⟨pv,rfl,⟨ho,hg,hb,hb.size⟩⟩
theorem ncLf3_any(hg:LfBox w g)(hd:IsDev w v own D)(h:OnC D n F x)(hn:64≤n)(hF:F 193=0)(h3:F 195=0)(P:LfPut F 6 2) :
  Calls Tryz.prog 125 #[(.iface 40 (.pointer (some ⟨v.tb 0,0,none⟩))),.pointer (some ⟨g,0,none⟩)] w fun r w'=>∃ sv,r = .returned (.tuple #[sv,.int .i64 0])∧Acc w w.heap.size w' 73 3 sv (putL1 F 6 2).length (instrC (putL1 F 6 2)):=by
 have H1:=Lib.hid (ncLf1_any (w:=w) (v:=v));have H2:=Lib.hid (fun(wx:World) (hb:Below w.heap.size w wx)=>lf_plan (hd.below hb) h hn hF h3 6 2 P);have c0:=hg.cell;clear hg hd h hn hF h3 P
 go_enter Tryz.func125,Tryz.ntmps125
 go_wp2_with fail
 (with_reducible refine H1.out.mono ?_)
 rintro r w1 ⟨rfl,b1⟩;have B1:=Lib.hid b1;have H3:=Lib.hid (H2.out w1 b1);clear b1 H2;go_wp2_with fail
 (with_reducible refine H3.out.mono ?_)
 rintro r w2 ⟨sv,rfl,a2⟩;have A2:=Lib.hid (a2.deeper B1.out);clear a2
 go_wp2_with fail
 go_ret2
 exact⟨_,rfl,A2.out⟩
theorem lfWs_flat(k:Nat):flat (lfWs (k+1))=flat (lfWs k) ++ [.int .u64 ((1536+8*k:Nat):Int),.int .u64 (lfE k)]:=by
 unfold lfWs;rw[List.range_succ,List.map_append,flat_append]
 rfl
theorem lfE_bd(i:Nat)(hi:i<28):0≤lfE i∧lfE i<18446744073709551616:=by
 have:∀ i:Fin 28,0≤lfE i.val∧lfE i.val<18446744073709551616:=by decide +kernel
 exact this ⟨i,hi⟩
theorem lfWs_bd{e:Nat×Int}(h:e∈lfWs 28):e.1%8=0∧e.1<4096∧0≤e.2∧e.2<18446744073709551616:=by
 obtain⟨i,hi,rfl⟩:=List.mem_map.1 h;have hi:=List.mem_range.1 hi;exact⟨by simp only;omega,by simp only;omega,lfE_bd i hi⟩
theorem lfSet_q:∀ e∈lfSetP,okqB e=true:=by decide +kernel
theorem lf_set(hS:SCl D 0 n C x)(hn:64≤n):SCl (D.run 0 lfSetP) 0 n (fun i=>look (lfWs 28) (C i) i) (x+(lfSetP).length):=
 hS.stores (ws:=lfWs 28) (fun e he=>by have:=lfWs_bd he;omega) (fun e he=>(lfWs_bd he).2.2)
theorem ncLf2_any{B:Nat}(P:Pst B w v D own w)(hS:SCl D 0 n C x)(hn:64≤n)(hx:x≤1000) :
  Calls Tryz.prog 122 #[(.iface 40 (.pointer (some ⟨v.tb 0,0,none⟩)))] w fun r w'=>r = .returned (.int .i64 0)∧∃ own',Pst B w v (D.run 0 lfSetP) own' w':=by
 have R1:Hid (RdSl (w.alloc (.cells #[.int .u64 5] 31)) 1 (.slice (some ⟨w.heap.size,0,none⟩) 1 1) [(5:Int)].length (intsU [5])):=Lib.hid (RdSl.new w #[.int .u64 5] 31 1 1 rfl);have R2:Hid (∀ wx:World,RdSl (wx.alloc (.cells #[.int .u64 1] 31)) 1 (.slice (some ⟨wx.heap.size,0,none⟩) 1 1) [(1:Int)].length (intsU [1])):=Lib.hid (fun wx=>RdSl.new wx #[.int .u64 1] 31 1 1 rfl);have HE:Hid (Calls Tryz.prog 123 #[.slice (some ⟨w.heap.size,0,none⟩) 1 1,.slice (some ⟨w.heap.size+1,0,none⟩) 1 1,.int .u64 0,.int .u64 0,.bool false] ((w.alloc (.cells #[.int .u64 5] 31)).alloc (.cells #[.int .u64 1] 31)) fun r w'=>∃ b,r = .returned (.tuple #[.slice (some ⟨b,0,none⟩) 28 28,.int .i64 0])∧Row w' b 28 31 (fun i => .int .u64 (lfE i))∧Below w.heap.size w w'):=Lib.hid (by
  have h2:=R2.out (w.alloc (.cells #[.int .u64 5] 31));rw[World.size_alloc]at h2;have:=encode_anyL (w:=(w.alloc (.cells #[.int .u64 5] 31)).alloc (.cells #[.int .u64 1] 31)) (.slice (some ⟨w.heap.size,0,none⟩) 1 1) (.slice (some ⟨w.heap.size+1,0,none⟩) 1 1) [5] [1] 0 0 false (R1.out.alloc _) h2 rfl (by simp);refine this.mono fun r w' hp => ?_
  obtain⟨b,h1,h2,h3,h4⟩:=hp.1 (fun i hi=>by
   have:i=0:=by simp at hi;omega
   subst this;simp[badAt])
  exact⟨b,h1,h2,((below_alloc w _).trans ((below_alloc _ _).mono (by simp))).trans (h4.mono (by simp;omega))⟩)
 have hcl:=lf_set hS hn;have hex:=hS.exec;have HST:Hid (∀ (wx:World) (sv:Value),Below w.heap.size w wx→RdSl wx 2 sv (lfWs 28).length (flat (lfWs 28))→Calls Tryz.prog 124 #[sv] wx fun r w'=>∃ ov,r = .returned ov∧Below w.heap.size w w'∧Calls Tryz.prog 12 #[ov,(.iface 40 (.pointer (some ⟨v.tb 0,0,none⟩)))] w' fun r w2=>r = .returned (.int .i64 0)∧∃ own',Pst B w v (D.run 0 lfSetP) own' w2):=Lib.hid (fun wx sv hb hr=>(stores_any sv (lfWs 28) hr (by simp[lfWs]) (fun e he=>by have:=lfWs_bd he;omega)).mono fun r w' hp=>by
  obtain⟨ov,rfl,ha⟩:=hp;refine⟨ov,rfl,hb.trans (ha.bel.mono hb.size),(run_acc (P.next hb).dev (j:=0) (by omega) ha (fun e he => ?_) (by decide) (by omega)).mono fun r w2 hq => ?_⟩
  ·have:=okqB_ok (lfSet_q e he) (Nat.le_refl 64)
   exact⟨this.lo,this.hi,by have:=this.lt;omega⟩
  ·exact⟨by rw[hq.1];show Ending.returned (.int .i64 ((D.run 0 lfSetP).err 0))=_;rw[hcl.grp.on.err],(P.next hb).post hq.2⟩)
 obtain⟨i0,hi,hz0,hz1,hz2⟩:=info_parts infoWrite;have I:=Lib.hid (And.intro hi (And.intro hz0 (And.intro hz1 hz2)));clear hi hz0 hz1 hz2 P hS hn hx hcl hex R1 R2
 go_enter Tryz.func122,Tryz.ntmps122
 go_wp2_with fail
 (with_reducible refine HE.out.mono ?_)
 rintro r w1 ⟨b,rfl,row,b1⟩;have ROW:=Lib.hid row;have B1:=Lib.hid b1
 have A0:Hid (Acc w1 w1.heap.size w1 140 2 (.slice none 0 0) 0 (flat (lfWs 0))):=Lib.hid (Acc.nil _ _ _ _ _ (Below.refl _ _) (Nat.le_refl _));clear row b1 HE;go_wp2_with fail
 go_loopw [5,19] (fun u y wr=>∃ k:Nat,k≤28∧y = .int .i64 k∧Acc w1 w1.heap.size wr 140 2 u k (flat (lfWs k))) (fun _ y _=>28-(intOf y).toNat)
 case atStart=>exact⟨0,by omega,rfl,A0.out⟩
 case round=>
  clear A0;obtain⟨k,hk,rfl,ha⟩:=hrel;rename World=>wr
  obtain⟨la,lc,hsv⟩:=ha.slice;subst hsv;have A:=Lib.hid ha;clear ha
  by_cases hlt:k<28
  ·have hlt':(k:Int)<28:=by omega
   have ck:wr.cell? ⟨b,k,none⟩=some (.int .u64 (lfE k)):=(ROW.out.below A.out.bel).cell hlt;have g1:IntKind.u64.wrap (k:Int)=k:=IntWalk.u64_in _ (by omega);have g2:IntKind.u64.wrap ((k:Int)*8)=(k:Int)*8:=IntWalk.u64_in _ (by omega);have g3:IntKind.u64.wrap (1536+(k:Int)*8)=1536+(k:Int)*8:=IntWalk.u64_in _ (by omega);have HF:=Lib.hid (lfWs_flat k);go_wp2_with (at_builtin;refine wpList_append_sl _ rfl _ _ 52 rfl 140 i0 _ 2 16 Tryz.underlying52 I.out.1 I.out.2.1 I.out.2.2.1 I.out.2.2.2 rfl (by decide) _ _ _ rfl (by exact A.out.own.alloc _) _ 1 [.int .u64 (1536+(k:Int)*8),.int .u64 (lfE k)] rfl (by exact RdSl.newAt _ _ _ 2 1 _ rfl rfl) (by simp[Value.oneCell']) (by unfold maxLen;omega) (by omega) ?_)
   rintro v8 w8 o8 g8 a8 _;have A8:=Lib.hid (A.out.next (below_alloc _ _) o8 g8 a8 (by simp));clear o8 g8 a8;go_wp2_with fail
   go_roundw
   case rel=>exact⟨k+1,by omega,by go_num,by rw[HF.out,show((1536+8*k:Nat):Int)=1536+(k:Int)*8 by omega];exact A8.out⟩
   case measure=>simp[intOf];omega
  ·obtain rfl:k=28:=by omega
   have HS1:=Lib.hid (HST.out wr _ (B1.out.trans (A.out.bel.mono B1.out.size)) A.out.rd);go_wp2_with fail
   (with_reducible refine HS1.out.mono ?_)
   rintro r w5 ⟨ov,rfl,b5,hr⟩;have HR:=Lib.hid hr;clear hr b5 HS1;go_wp2_with fail
   (with_reducible refine HR.out.mono ?_)
   rintro r w6 ⟨rfl,p6⟩;have P6:=Lib.hid p6;clear p6
   go_wp2_with fail
   go_ret
   exact⟨rfl,P6.out⟩
theorem ncLf4_any{B:Nat}(hg:LfBox w g)(P:Pst B w v D own w)(hS:SCl D 0 n F x)(hn:64≤n)(hx:x≤1000)(hok:OkLf F)(e:Bool) :
  Calls Tryz.prog 126 #[(.iface 40 (.pointer (some ⟨v.tb 0,0,none⟩))),.bool e,.pointer (some ⟨g,0,none⟩)] w fun r w'=>r = .returned (.bool (gLf F e))∧Below B w w':=by
 have hO:=hS.onC;have hN:=fun(wx:World) (hb:Below w.heap.size w wx)=>hO.node (P.next hb).dev hn
 have hw:=nodeW_lf hO.cur;have hsz:nodeOk (lfW F) 4096→nodeOk (nodeW D 562954248388800) (D.n*64):=fun h=>by rw[hw];exact(nodeOk_n hok.nx _ _).1 h
 have hsz2:nodeOk (nodeW D 562954248388800) (D.n*64)→nodeOk (lfW F) 4096:=fun h=>by rw[hw]at h;exact(nodeOk_n hok.nx _ _).1 h
 have H1:=Lib.hid (ncLf1_any (w:=w) (v:=v));have HCK:Hid (∀ wx,Below w.heap.size w wx→Calls Tryz.prog 127 #[.agg #[(.iface 40 (.pointer (some ⟨v.tb 0,0,none⟩))),.int .u64 562954248388800]] wx fun r w'=>r = .returned (.int .i64 (if nodeOk (lfW F) 4096 then 0 else 11))∧Below wx.heap.size wx w'):=Lib.hid (fun wx hb=>(check_any (hN wx hb)).mono fun r w' hp=>by
  rcases hp with ⟨hb',⟨h1,h2⟩ | ⟨h1,h2⟩⟩
  ·exact⟨by rw[h2,if_pos (hsz2 h1)],hb'⟩
  ·exact⟨by rw[h2,if_neg (fun h=>h1 (hsz h))],hb'⟩)
 have HA:Hid (∀ wx,Calls Tryz.prog 128 #[.agg #[(.iface 40 (.pointer (some ⟨v.tb 0,0,none⟩))),.int .u64 562954248388800],.int .u64 0] wx fun r w'=>∃ bl bf,r = .returned (.func (.func 194) #[] #[.pointer (some ⟨bl,0,none⟩),.pointer (some ⟨bf,0,none⟩)])∧Blk w' bl #[(.iface 40 (.pointer (some ⟨v.tb 0,0,none⟩))),.int .u64 562954248388800] 154∧Blk w' bf #[.int .u64 0] 31∧Below wx.heap.size wx w'):=Lib.hid (fun wx=>(all_any (w:=wx) (.inr ⟨_,rfl⟩) 562954248388800 0).mono fun r w' hp=>⟨_,_,hp.1,by rw[hp.2];exact(Blk.new wx _ _).alloc _,by rw[hp.2];exact(by have:=Blk.new (wx.alloc (.cells #[(.iface 40 (.pointer (some ⟨v.tb 0,0,none⟩))),.int .u64 562954248388800] 154)) #[.int .u64 0] 31;rwa [World.size_alloc]at this),by rw[hp.2];exact(below_alloc _ _).trans ((below_alloc _ _).mono (by simp))⟩);have hle:(entL1 F).length≤15:=by simp only[entL1,entsW,slotsW,slotsN,List.length_map,List.length_range];omega
 have hle2:(entL1 (lookI (putL1 F 7 3) F)).length≤15:=by simp only[entL1,entsW,slotsW,slotsN,List.length_map,List.length_range];omega
 have HC1:Hid (nodeOk (lfW F) 4096→∀ wx bl bf,Below w.heap.size w wx→Blk wx bl #[(.iface 40 (.pointer (some ⟨v.tb 0,0,none⟩))),.int .u64 562954248388800] 154→Blk wx bf #[.int .u64 0] 31→Calls Tryz.prog 117 #[.func (.func 194) #[] #[.pointer (some ⟨bl,0,none⟩),.pointer (some ⟨bf,0,none⟩)]] wx (PairsPost wx (entL1 F))):=Lib.hid (fun h wx bl bf hb hk hk2=>by
  have:=collectL_any (hN wx hb) (hsz h) hk hk2
  rwa [hw]at this)
 have HX:Hid (∀ (wx:World) (u:Value),RdSl wx 2 u (entL1 F).length (prC (entL1 F))→Calls Tryz.prog 119 #[u,.bool e] wx fun r w'=>r = .returned (.bool (expB (entL1 F) e))∧Below wx.heap.size wx w'):=Lib.hid (fun wx u hr=>ncExpected_any u _ e hr (by omega));have HB0:=Lib.hid P.size;have HP:Hid (nodeOk (lfW F) 4096→expB (entL1 F) e=true→∀ wx,Below w.heap.size w wx→Calls Tryz.prog 75 #[.agg #[(.iface 40 (.pointer (some ⟨v.tb 0,0,none⟩))),.int .u64 562954248388800],.int .u64 7,.int .u64 3] wx fun r w'=>∃ sv,r = .returned (.tuple #[sv,.int .i64 0])∧Below wx.heap.size wx w' ∧
   Calls Tryz.prog 12 #[sv,(.iface 40 (.pointer (some ⟨v.tb 0,0,none⟩)))] w' fun r w2=>r = .returned (.int .i64 0)∧Below B w w2∧wx.heap.size≤w2.heap.size∧(∀ k,w.heap.size≤k→k<wx.heap.size→w2.heap[k]? = wx.heap[k]?) ∧
    ∀ wy bl bf,Below w2.heap.size w2 wy→Blk wy bl #[(.iface 40 (.pointer (some ⟨v.tb 0,0,none⟩))),.int .u64 562954248388800] 154→Blk wy bf #[.int .u64 0] 31→Calls Tryz.prog 117 #[.func (.func 194) #[] #[.pointer (some ⟨bl,0,none⟩),.pointer (some ⟨bf,0,none⟩)]] wy (PairsPost wy (entL1 (lookI (putL1 F 7 3) F)))):=Lib.hid (fun hno he wx hb=>by
  have Tryz':=hok.put hno (expB_false he);have hO2:=hO.run (q:=putL1 F 7 3) (fun a ha=>okqB_ok (Tryz'.q a ha) hn);have hex:=hS.exec;have hql:=Tryz'.ql;refine(lf_plan (P.next hb).dev hO hn hok.nx hok.nh 7 3 Tryz').mono ?_
  rintro r w' ⟨sv,rfl,ha⟩;refine⟨sv,rfl,ha.bel,(run_acc (P.next hb).dev (j:=0) (by omega) ha (fun a ha => ?_) (by omega) (by omega)).mono fun r w2 hq => ?_⟩
  ·have:=okqB_ok (Tryz'.q a ha) (Nat.le_refl 64)
   exact⟨this.lo,this.hi,by have:=this.lt;omega⟩
  ·have dd:=hq.2
   have P1:=P.next hb;obtain⟨own2,P2⟩:=P1.post hq.2;obtain⟨_,_,_,u⟩:=dd;refine⟨by rw[hq.1];show Ending.returned (.int .i64 ((D.run 0 (putL1 F 7 3)).err 0))=_;rw[hO2.err],P2.bel,?_,fun k h1 h2 => ?_,fun wy bl bf hwy hbl hbf => ?_⟩
   ·exact u.size
   ·exact u.block k h2 (fun ho=>by have:=P.dev.lt k ho;omega)
   ·have hw2:=nodeW_lf hO2.cur
    have:=collectL_any (hO2.node (P2.next hwy).dev hn) (by rw[hw2];exact(nodeOk_n Tryz'.nx2 _ _).1 Tryz'.ok2) hbl hbf
    rwa [hw2]at this)
 have HGC:Hid (∀ wx,Below w.heap.size w wx→wx.cell? ⟨g,0,none⟩=some (.func (.func 121) #[] #[])):=Lib.hid (fun wx hb=>(hg.below hb).cell);have c0:=hg.cell;unfold gLf;clear P hS hn hx hok hO hN hw hsz hsz2 hg
 by_cases hno:nodeOk (lfW F) 4096
 case neg=>
  rw[if_neg hno]at HCK;rw[decide_eq_false hno];clear HC1 HP HX HA hno
  go_enter Tryz.func126,Tryz.ntmps126
  go_wp2_with fail
  (with_reducible refine H1.out.mono ?_)
  rintro r w1 ⟨rfl,b1⟩;have B1:=Lib.hid (b1.trans ((below_alloc w1 (.cells #[(.iface 40 (.pointer (some ⟨v.tb 0,0,none⟩))),.int .u64 562954248388800] 154)).mono b1.size));have K1:=Lib.hid (Blk.new w1 #[(.iface 40 (.pointer (some ⟨v.tb 0,0,none⟩))),.int .u64 562954248388800] 154);have k0:=K1.out.cell (i:=0) rfl;have k1:=K1.out.cell (i:=1) rfl
  clear b1;go_wp2_with fail
  (with_reducible refine(HCK.out _ B1.out).mono ?_)
  rintro r w2 ⟨rfl,b2⟩;have B2:=Lib.hid ((B1.out.trans (b2.mono B1.out.size)).mono HB0.out);clear b2;go_wp2_with fail
  go_ret
  exact⟨rfl,B2.out⟩
 case pos=>
 have HC:=Lib.hid (HC1.out hno);have HP1:=Lib.hid (HP.out hno);rw[if_pos hno]at HCK;rw[decide_eq_true hno,Bool.true_and];clear HC1 HP hno
 generalize entL1 (lookI (putL1 F 7 3) F)=l2 at *
 generalize entL1 F=l1 at *
 generalize hex:expB l1 e=ex at *
 clear hex
 cases ex
 ·clear HP1
  go_enter Tryz.func126,Tryz.ntmps126
  go_wp2_with fail
  (with_reducible refine H1.out.mono ?_)
  rintro r w1 ⟨rfl,b1⟩;have B1:=Lib.hid (b1.trans ((below_alloc w1 (.cells #[(.iface 40 (.pointer (some ⟨v.tb 0,0,none⟩))),.int .u64 562954248388800] 154)).mono b1.size));have K1:=Lib.hid (Blk.new w1 #[(.iface 40 (.pointer (some ⟨v.tb 0,0,none⟩))),.int .u64 562954248388800] 154);have k0:=K1.out.cell (i:=0) rfl;have k1:=K1.out.cell (i:=1) rfl
  clear b1;go_wp2_with fail
  (with_reducible refine(HCK.out _ B1.out).mono ?_)
  rintro r w2 ⟨rfl,b2⟩;have B2:=Lib.hid (B1.out.trans (b2.mono B1.out.size));have K2:=Lib.hid (K1.out.below b2);have k0:=K2.out.cell (i:=0) rfl;have k1:=K2.out.cell (i:=1) rfl
  clear b2;go_wp2_with fail
  (with_reducible refine(HA.out _).mono ?_)
  rintro r w3 ⟨bl,bf,rfl,kb,kf,b3⟩;have B3:=Lib.hid (B2.out.trans (b3.mono B2.out.size));have HC2:=Lib.hid (HC.out w3 bl bf B3.out kb kf);clear kb kf b3 HC k0 k1;go_wp2_with fail
  (with_reducible refine HC2.out.mono ?_)
  rintro r w4 hp;obtain⟨u,rfl,ru,_,_,b4⟩:=hp.rd;have B4:=Lib.hid (B3.out.trans (b4.mono B3.out.size));have HX1:=Lib.hid (HX.out w4 u ru);clear hp ru b4 HC2;go_wp2_with fail
  (with_reducible refine HX1.out.mono ?_)
  rintro r w5 ⟨rfl,b5⟩;have B5:=Lib.hid ((B4.out.trans (b5.mono B4.out.size)).mono HB0.out);clear b5;go_wp2_with fail
  go_ret
  exact⟨by simp,B5.out⟩
 ·have HP2:=Lib.hid (HP1.out rfl)
  obtain⟨i0,hi,hz0,hz1,hz2⟩:=info_parts infoPair;have I:=Lib.hid (And.intro hi (And.intro hz0 (And.intro hz1 hz2)));clear hi hz0 hz1 hz2 HP1
  go_enter Tryz.func126,Tryz.ntmps126
  go_wp2_with fail
  (with_reducible refine H1.out.mono ?_)
  rintro r w1 ⟨rfl,b1⟩;have B1:=Lib.hid (b1.trans ((below_alloc w1 (.cells #[(.iface 40 (.pointer (some ⟨v.tb 0,0,none⟩))),.int .u64 562954248388800] 154)).mono b1.size));have K1:=Lib.hid (Blk.new w1 #[(.iface 40 (.pointer (some ⟨v.tb 0,0,none⟩))),.int .u64 562954248388800] 154);have k0:=K1.out.cell (i:=0) rfl;have k1:=K1.out.cell (i:=1) rfl
  have S1:=Lib.hid b1.size;clear b1;go_wp2_with fail
  (with_reducible refine(HCK.out _ B1.out).mono ?_)
  rintro r w2 ⟨rfl,b2⟩;have B2:=Lib.hid (B1.out.trans (b2.mono B1.out.size));have K2:=Lib.hid (K1.out.below b2);have k0:=K2.out.cell (i:=0) rfl;have k1:=K2.out.cell (i:=1) rfl
  clear b2;go_wp2_with fail
  (with_reducible refine(HA.out _).mono ?_)
  rintro r w3 ⟨bl,bf,rfl,kb,kf,b3⟩;have B3:=Lib.hid (B2.out.trans (b3.mono B2.out.size));have K3:=Lib.hid (K2.out.below b3);have HC2:=Lib.hid (HC.out w3 bl bf B3.out kb kf);clear kb kf b3 HC k0 k1;go_wp2_with fail
  (with_reducible refine HC2.out.mono ?_)
  rintro r w4 hp;obtain⟨u,rfl,ru,ou,gu,b4⟩:=hp.rd;have B4:=Lib.hid (B3.out.trans (b4.mono B3.out.size));have K4:=Lib.hid (K3.out.below b4);have HX1:=Lib.hid (HX.out w4 u ru);have OU:=Lib.hid ou;have GU:Hid (∀ g,u.ownBlock=some g→w.heap.size≤g):=Lib.hid (fun g hg=>Nat.le_trans B3.out.size (gu g hg))
  clear hp ru b4 HC2 ou gu HX;go_wp2_with fail
  (with_reducible refine HX1.out.mono ?_)
  rintro r w5 ⟨rfl,b5⟩;have B5:=Lib.hid (B4.out.trans (b5.mono B4.out.size));have K5:=Lib.hid (K4.out.below b5);have OU5:=Lib.hid (OU.out.kept (fun k hk=>b5.block k (OU.out.lt k hk)));have k0:=K5.out.cell (i:=0) rfl;have k1:=K5.out.cell (i:=1) rfl
  have HP3:=Lib.hid (HP2.out w5 B5.out);clear b5 HP2 HX1 OU;go_wp2_with fail
  (with_reducible refine HP3.out.mono ?_)
  rintro r w6 ⟨sv,rfl,b6,hr6⟩;have HR6:=Lib.hid hr6;clear b6 hr6 HP3;go_wp2_with fail
  (with_reducible refine HR6.out.mono ?_)
  rintro r w7 ⟨rfl,b7,z7,k7,hc7⟩;have B7:=Lib.hid b7;have K7:=Lib.hid (show Blk w7 w1.heap.size _ 154 from(k7 w1.heap.size S1.out (K5.out.lt)).trans K5.out);have OU7:=Lib.hid (OU5.out.kept (fun k hk=>k7 k (GU.out k hk) (OU5.out.lt k hk)));have Z7:=Lib.hid z7;have HC7:=Lib.hid hc7;have k0:=K7.out.cell (i:=0) rfl;have k1:=K7.out.cell (i:=1) rfl
  clear b7 z7 k7 hc7 HR6;go_wp2_with fail
  (with_reducible refine(HA.out _).mono ?_)
  rintro r w8 ⟨bl8,bf8,rfl,kb8,kf8,b8⟩;have HC8:=Lib.hid (HC7.out w8 bl8 bf8 b8 kb8 kf8);have B8:=Lib.hid b8;clear kb8 kf8 b8 HC7;go_wp2_with fail
  (with_reducible refine HC8.out.mono ?_)
  rintro r w9 hp9;obtain⟨u9,rfl,ru9,_,gu9,b9⟩:=hp9.rd;have B9:=Lib.hid (B8.out.trans (b9.mono B8.out.size));have RU9:=Lib.hid ru9;have GU9:=Lib.hid gu9
  have OU9:=Lib.hid (OU7.out.kept (fun k hk=>B9.out.block k (OU7.out.lt k hk)));clear hp9 ru9 gu9 b9 HC8;go_wp2_with (at_builtin;refine wpList_append_sl _ rfl _ _ 186 rfl 194 i0 _ 2 16 Tryz.underlying186 I.out.1 I.out.2.1 I.out.2.2.1 I.out.2.2.2 rfl (by decide) _ _ _ rfl (by exact OU9.out.alloc _) _ 1 (prC [(7,3)]) rfl (by exact RdSl.newAt _ _ _ 2 1 _ rfl rfl) (by simp[prC,Value.oneCell']) (by unfold maxLen;omega) (by omega) ?_)
  rintro va wa oa ga aa _;have RUA:=Lib.hid ((RU9.out.alloc _).kept (fun k hk hlt=>ga.block k hlt (fun e=>by
   have h1:=GU9.out k hk;have h2:=OU7.out.lt k e.symm;have:=B8.out.size;omega)))
  have BA:=(B9.out.trans ((below_alloc w9 (.cells #[.int .u64 7,.int .u64 3] 194)).mono B9.out.size)).mono (show B≤w7.heap.size from Nat.le_trans HB0.out (Nat.le_trans B5.out.size Z7.out));have BB:=B7.out.trans BA;have BC:Hid (Below B w wa):=Lib.hid ⟨ga.os.trans BB.os,ga.tape.trans BB.tape,ga.output.trans BB.output,Nat.le_trans BB.size ga.size,fun k hk=>(ga.block k (by have:=BB.size;have:=HB0.out;omega) (fun e=>by have h1:=GU.out k e.symm;have:=HB0.out;omega)).trans (BB.block k hk)⟩;have RA:Hid (RdSl wa 2 va (l1 ++ [(7,3)]).length (prC (l1 ++ [(7,3)]))):=Lib.hid (by
   have:=oa.rd
   rwa [← prC_append,show l1.length+1=(l1 ++ [((7:Int),(3:Int))]).length by simp]at this)
  have HE:=Lib.hid (equalP_any u9 va l2 (l1 ++ [(7,3)]) RUA.out RA.out (by omega) (by simp;omega));clear oa ga aa BA BB;go_wp2_with fail
  (with_reducible refine HE.out.mono ?_)
  rintro r wb ⟨rfl,bb⟩;have BD:=Lib.hid (BC.out.trans (bb.mono (Nat.le_trans HB0.out BC.out.size)));clear bb;go_wp2_with fail
  go_ret
  exact⟨by simp,BD.out⟩
end
end

section
open Go.RowKit Go.Maps
attribute [local go_sem ↓] Go.wp_at_zero Go.wp_at_succ
def supK(k:Int):Sup:=⟨k,48,1,1,1,0,0,0⟩
theorem supK_ok(k:Int)(h1:1≤k)(h2:k≤3):(supK k).Ok:=by
 refine⟨h1,by show k≤65535;omega,?_,?_,?_,?_,?_,?_,?_,?_,?_,?_,?_,?_,?_⟩ <;> simp[supK,Sup.rest]
def sbSetP:List (Nat×Nat×Int):=eraseP++sbP ((supK 1).withGen 1) 0
def gSb(n:Nat)(F:Nat→Int)(e:Bool):Bool:=newG F n&&(decide ((newS F n).ver=2) || (!e&&decide ((newS F n).ver=1)))&&decide ((newS F n).gen≠18446744073709551615)
section
variable{w:World}{v:DV}{own:Nat→Option Role}{D:Dev}{g:Nat}
def SbBox(w:World)(g:Nat):Prop:=Blk w g #[.func (.func 80) #[] #[]] 131
theorem SbBox.below{w':World}(h:SbBox w g)(hb:Below w.heap.size w w'):SbBox w' g:=Blk.below h hb
theorem SbBox.cell(h:SbBox w g):w.cell? ⟨g,0,none⟩=some (.func (.func 80) #[] #[]):=Blk.cell h rfl
theorem ncSb1_any(k:Int):Calls Tryz.prog 80 #[.int .i64 k] w fun r w'=>r = .returned (.agg (supK k).cells)∧Below w.heap.size w w':=by
 go_enter Tryz.func80,Tryz.ntmps80
 go_wp2_with fail
 refine bodyPost_ret (v:=.agg (supK k).cells) (by simp[results,Tryz.results80,go_sem,Sup.cells,supK]) rfl ⟨rfl,?_⟩
 exact below_alloc _ _
theorem ncSb2_any(hN:Nib w)(hg:SbBox w g)(h:IsDev w v own D)(he:D.err 0=0)(hn:48≤D.n)(hx:D.exec+100000<4294967296) :
  Calls Tryz.prog 81 #[(.iface 40 (.pointer (some ⟨v.tb 0,0,none⟩))),.pointer (some ⟨g,0,none⟩)] w fun r w'=>r = .returned (.int .i64 ((D.run 0 sbSetP).err 0))∧DPost v own w (D.run 0 sbSetP) w':=by
 have H1:=Lib.hid (ncSb1_any (w:=w) 1);have H2:=Lib.hid (fun(wx:World) (hb:Below w.heap.size w wx)=>sbFormat_any (hN.below hb) (h.below hb) (j:=0) (by omega) he (by omega) (supK 1) (supK_ok 1 (by omega) (by omega)) (by show(48:Int)≤(D.n:Int);omega) hx);have c0:=hg.cell;clear hN hg h he hn hx
 go_enter Tryz.func81,Tryz.ntmps81
 go_wp2_with fail
 (with_reducible refine H1.out.mono ?_)
 rintro r w1 ⟨rfl,b1⟩;have B1:=Lib.hid b1;have H3:=Lib.hid (H2.out w1 b1);clear b1 H2;go_wp2_with fail
 (with_reducible refine H3.out.mono ?_)
 rintro r w2 ⟨rfl,p2⟩;have P2:=Lib.hid (p2.past B1.out);clear p2
 go_wp2_with fail
 go_ret
 exact⟨rfl,P2.out⟩
theorem ncSb3_any(hN:Nib w)(hg:SbBox w g)(h:IsDev w v own D)(hof:D.off=false)(he:D.err 0=0)(hvb:D.VB)(hn:48≤D.n) :
  Calls Tryz.prog 83 #[(.iface 40 (.pointer (some ⟨v.tb 0,0,none⟩))),.pointer (some ⟨g,0,none⟩)] w (PlPost w D.cur D.n (supK 2)):=by
 have H1:=Lib.hid (ncSb1_any (w:=w) 2);have H2:=Lib.hid (fun(wx:World) (hb:Below w.heap.size w wx)=>sbPlan_any (hN.below hb) (h.below hb) (j:=0) (by omega) hof he hvb (by omega) (supK 2) (supK_ok 2 (by omega) (by omega)) (by show(48:Int)≤(D.n:Int);omega) (by decide) (by decide));have c0:=hg.cell;clear hN hg h he hn hof hvb
 go_enter Tryz.func83,Tryz.ntmps83
 go_wp2_with fail
 (with_reducible refine H1.out.mono ?_)
 rintro r w1 ⟨rfl,b1⟩;have B1:=Lib.hid b1;have H3:=Lib.hid (H2.out w1 b1);clear b1 H2;go_wp2_with fail
 (with_reducible refine H3.out.mono ?_)
 rintro r w2 (⟨h1,rfl,b2⟩ | ⟨h1,h2,rfl,b2⟩ | ⟨h1,h2,ov,rfl,a2⟩)
 ·have HH:=Lib.hid h1
  have B2:=Lib.hid (B1.out.trans (b2.mono B1.out.size));clear b2 h1
  go_wp2_with fail
  go_ret2
  exact .inl ⟨HH.out,rfl,B2.out⟩
 ·have HH:=Lib.hid (And.intro h1 h2)
  have B2:=Lib.hid (B1.out.trans (b2.mono B1.out.size));clear b2 h1 h2
  go_wp2_with fail
  go_ret2
  exact .inr (.inl ⟨HH.out.1,HH.out.2,rfl,B2.out⟩)
 ·have HH:=Lib.hid (And.intro h1 h2)
  have A2:=Lib.hid (a2.deeper B1.out);clear a2 h1 h2
  go_wp2_with fail
  go_ret2
  exact .inr (.inr ⟨HH.out.1,HH.out.2,_,rfl,A2.out⟩)
theorem Nib.above{w':World}{B:Nat}(h:Nib w)(hb:Below B w w')(h0:0<B):Nib w':=fun i hi=>(hb.cell (p:=⟨0,i,none⟩) h0).trans (h i hi)
theorem sb_behind{n x:Nat}{F:Nat→Int}(hS:SCl D 0 n F x)(hG:newG F n=true)(hg:0≤(newS F n).gen∧(newS F n).gen<18446744073709551616)(hg1:(newS F n).gen≠18446744073709551615)(ha:newA F n≤1)(hn:48≤n) :
  ∃ C,SCl (D.run 0 (sbP ((supK 3).withGen ((newS F n).gen+1)) (1-newA F n))) 0 n C (x+19)∧opS C n=(supK 3).withGen ((newS F n).gen+1)∧opE C n=0:=by
 have hok:=supK_ok 3 (by omega) (by omega);have hok2:=hok.withGen ((newS F n).gen+1);have hft:=hok2.fits (by show 0≤(newS F n).gen+1;omega) (by show(newS F n).gen+1<_;omega);have C1:=hS.prog hft (i:=1-newA F n) (by omega);obtain⟨u1,u2⟩:=prg_cp ((supK 3).withGen ((newS F n).gen+1)) (1-newA F n) F;obtain⟨n1,n2,n3⟩:=new_update ((supK 3).withGen ((newS F n).gen+1)) hok2 F _ (n:=n) (by show(48:Int)≤(n:Int);omega) hG (by show _<(newS F n).gen+1;omega) (by show 0≤(newS F n).gen+1;omega) u1 (u2 (newA F n) (by omega));refine⟨_,C1,?_,?_⟩
 ·unfold opS;rw[n1,n2];rfl
 ·unfold opE;rw[n1];rfl
theorem ncSb4_any{n B x:Nat}{F:Nat→Int}(hN:Nib w)(hg:SbBox w g)(P:Pst B w v D own w)(h0:0<B)(_h1:g<B)(hS:SCl D 0 n F x)(hn:64≤n)(hx:x≤1000)(e:Bool) :
  Calls Tryz.prog 84 #[(.iface 40 (.pointer (some ⟨v.tb 0,0,none⟩))),.bool e,.pointer (some ⟨g,0,none⟩)] w fun r w'=>r = .returned (.bool (gSb n F e))∧Below B w w':=by
 have hcu:=hS.cur;have hdn:D.n=n:=hS.grp.on.n;have hex:=hS.exec;have HO:=Lib.hid (sbOpen_any hN P.dev (j:=0) (by omega) hS.grp.on.off hS.grp.on.err hS.vb (by omega));rw[hcu,hdn]at HO;have HM:Hid (∀ wx,Calls Tryz.prog 80 #[.int .i64 3] wx fun r w'=>r = .returned (.agg (supK 3).cells)∧Below wx.heap.size wx w'):=Lib.hid (fun wx=>ncSb1_any (w:=wx) 3);have HG0:=cpS_gen hS.bd n (newA F n);have HA:=newA_le F n;have HGN:0≤(newS F n).gen∧(newS F n).gen<18446744073709551616:=HG0;have HB0:=Lib.hid P.size;have HUA:=fun(wx:World) (hb:Below w.heap.size w wx)=>sbUpdate_any (hN.below hb) (P.next hb).dev (j:=0) (by omega) hS.grp.on.off hS.grp.on.err hS.vb (by omega) (supK 3) (supK_ok 3 (by omega) (by omega)) (by show(48:Int)≤(D.n:Int);omega) (by decide) (by decide) (by omega)
 have HGC:Hid (∀ wx,Below w.heap.size w wx→wx.cell? ⟨g,0,none⟩=some (.func (.func 80) #[] #[])):=Lib.hid (fun wx hb=>(hg.below hb).cell);unfold UpPost at HUA;rw[hcu,hdn]at HUA
 cases hnew:newG F n
 ·have e1:opS F n=Sup.zero:=by unfold opS;rw[hnew];rfl
  have e2:opE F n=10:=by unfold opE;rw[hnew];rfl
  have e3:gSb n F e=false:=by unfold gSb;rw[hnew];rfl
  rw[e1,e2]at HO;rw[e3];unfold Sup.zero Sup.cells at HO;clear hN hg P hS HUA HG0 HA HGN hcu hdn hex e1 e2 e3 hnew HGC
  go_enter Tryz.func84,Tryz.ntmps84
  go_wp2_with fail
  (with_reducible refine HO.out.mono ?_)
  rintro r w1 ⟨rfl,b1⟩;have B1:=Lib.hid ((b1.mono HB0.out).trans ((below_alloc w1 (.cells #[.int .i64 0,.int .i64 0,.int .i64 0,.int .i64 0,.int .i64 0,.int .i64 0,.int .i64 0,.int .u64 0] 130)).mono (Nat.le_trans HB0.out b1.size)));clear b1;go_wp2_with fail
  go_ret
  exact⟨rfl,B1.out⟩
 ·have e1:opS F n=newS F n:=by unfold opS;rw[hnew];rfl
  have e2:opE F n=0:=by unfold opE;rw[hnew];rfl
  have e3:gSb n F e=((decide ((newS F n).ver=2) || (!e&&decide ((newS F n).ver=1)))&&decide ((newS F n).gen≠18446744073709551615)):=by unfold gSb;rw[hnew];rfl
  have HUG:Hid ((newS F n).gen≠18446744073709551615→∃ G,∀ wx,Below w.heap.size w wx→Calls Tryz.prog 86 #[(.iface 40 (.pointer (some ⟨v.tb 0,0,none⟩))),.agg (supK 3).cells] wx fun r w'=>r = .returned (.int .i64 0)∧(∀ k,w.heap.size≤k→k<wx.heap.size→w'.heap[k]? = wx.heap[k]?)∧wx.heap.size≤w'.heap.size∧Below B w w' ∧
    Calls Tryz.prog 85 #[(.iface 40 (.pointer (some ⟨v.tb 0,0,none⟩)))] w' fun r w2=>r = .returned (.tuple #[.agg #[.int .i64 3,.int .i64 48,.int .i64 1,.int .i64 1,.int .i64 1,.int .i64 0,.int .i64 0,.int .u64 G],.int .i64 0])∧Below w'.heap.size w' w2):=Lib.hid (fun hg1=>by
   obtain⟨C,c1,c2,c3⟩:=sb_behind hS hnew HGN hg1 HA (by omega);refine⟨(newS F n).gen+1,fun wx hb=>(HUA wx hb).mono fun r w' hp => ?_⟩
   rcases hp with ⟨k,_⟩ | ⟨_,k,_⟩ | ⟨_,_,k,d⟩
   ·rw[hnew]at k;cases k
   ·exact absurd k hg1
   ·have dd:=d
    obtain⟨own2,P2⟩:=(P.next hb).post d;obtain⟨_,_,_,u⟩:=dd;refine⟨by rw[k,c1.grp.on.err],fun i hi1 hi2=>u.block i hi2 (fun ho => ?_),u.size,P2.bel,?_⟩
    ·have:=P.dev.lt i ho;omega
    ·have:=sbOpen_any (hN.above P2.bel h0) P2.dev (j:=0) (by omega) c1.grp.on.off c1.grp.on.err c1.vb (by rw[c1.grp.on.n];omega)
     rw[c1.cur,c1.grp.on.n,c2,c3]at this;exact this)
  have HUB:Hid ((newS F n).gen=18446744073709551615→∀ wx,Below w.heap.size w wx→Calls Tryz.prog 86 #[(.iface 40 (.pointer (some ⟨v.tb 0,0,none⟩))),.agg (supK 3).cells] wx fun r w'=>r = .returned (.int .i64 9)∧Below wx.heap.size wx w'):=Lib.hid (fun hg1 wx hb=>(HUA wx hb).mono fun r w' hp=>by
   rcases hp with ⟨k,_⟩ | ⟨_,_,k⟩ | ⟨_,k,_⟩
   ·rw[hnew]at k;cases k
   ·exact k
   ·exact absurd hg1 k)
  rw[e1,e2]at HO;rw[e3];clear HUA HG0 HA HGN;obtain⟨s1,hs1⟩:∃ s1,newS F n=s1:=⟨_,rfl⟩;rw[hs1]at HO HUG HUB ⊢;obtain⟨ver,lin,redo,und,desc,que,tab,gen⟩:=s1;unfold Sup.cells at HO;simp only at HO HUG HUB ⊢;clear hN hg P hS hcu hdn hex e1 e2 e3 hnew hs1 h0 hn hx;have hcv:((ver=1∧e=true)∨(¬ ver=2∧¬ ver=1))∨(ver=2)∨(ver=1∧e=false):=by cases e <;> simp <;> omega
  rcases hcv with (⟨hv,he⟩ | ⟨hv1,hv2⟩) | hv
  case' inl.inl=>
   have hb2:(ver != 2)=true:=by simp;omega
   have hb1:(ver != 1)=false:=by simp;omega
   subst he
  case' inl.inr=>
   have hb2:(ver != 2)=true:=by simp;omega
   have hb1:(ver != 1)=true:=by simp;omega
  iterate 2
   ·clear HUG HUB HGC
    go_enter Tryz.func84,Tryz.ntmps84
    go_wp2_with fail
    (with_reducible refine HO.out.mono ?_)
    rintro r w1 ⟨rfl,b1⟩;have B2:Hid (∀ c,Below B w (w1.alloc (.cells c 130))):=Lib.hid (fun c=>(b1.trans ((below_alloc w1 _).mono b1.size)).mono HB0.out);have K1:=Lib.hid (fun c=>Blk.new w1 c 130);have c0:=(K1.out #[.int .i64 ver,.int .i64 lin,.int .i64 redo,.int .i64 und,.int .i64 desc,.int .i64 que,.int .i64 tab,.int .u64 gen]).cell (i:=0) rfl;clear b1;go_wp2_with fail
    all_goals
     go_ret
     exact⟨by simp[*],B2.out _⟩
  ·have hgn:gen=18446744073709551615∨gen≠18446744073709551615:=by omega
   have hver:(decide (ver=2) || (!e&&decide (ver=1)))=true:=by rcases hv with rfl | ⟨rfl,rfl⟩ <;> simp
   rw[hver];clear hver
   rcases hv with hv | ⟨hv,rfl⟩
   case' inl=>have hb2:(ver != 2)=false:=by simp;omega
   case' inr=>
    have hb2:(ver != 2)=true:=by simp;omega
    have hb1:(ver != 1)=false:=by simp;omega
   all_goals
    clear hv
    rcases hgn with hgn | hgn
    ·have HU1:=Lib.hid (HUB.out hgn)
     have HGE:=Lib.hid hgn;clear HUG HUB hgn
     go_enter Tryz.func84,Tryz.ntmps84
     go_wp2_with fail
     (with_reducible refine HO.out.mono ?_)
     rintro r w1 ⟨rfl,b1⟩;have B2:Hid (∀ c,Below w.heap.size w (w1.alloc (.cells c 130))):=Lib.hid (fun c=>b1.trans ((below_alloc w1 _).mono b1.size));have K1:=Lib.hid (fun c=>Blk.new w1 c 130);have c0:=(K1.out #[.int .i64 ver,.int .i64 lin,.int .i64 redo,.int .i64 und,.int .i64 desc,.int .i64 que,.int .i64 tab,.int .u64 gen]).cell (i:=0) rfl;have d0:=HGC.out _ (B2.out #[.int .i64 ver,.int .i64 lin,.int .i64 redo,.int .i64 und,.int .i64 desc,.int .i64 que,.int .i64 tab,.int .u64 gen]);clear b1;go_wp2_with fail
     (with_reducible refine(HM.out _).mono ?_)
     rintro r w2 ⟨rfl,b2⟩;have B3:=Lib.hid ((B2.out _).trans (b2.mono (B2.out _).size));have HU2:=Lib.hid (HU1.out w2 B3.out);clear b2 HU1;go_wp2_with fail
     (with_reducible refine HU2.out.mono ?_)
     rintro r w3 ⟨rfl,b3⟩;have B4:=Lib.hid ((B3.out.trans (b3.mono B3.out.size)).mono HB0.out);clear b3;go_wp2_with fail
     go_ret
     exact⟨by simp[HGE.out],B4.out⟩
    ·obtain⟨G,HU0⟩:=HUG.out hgn
     have HU1:=Lib.hid HU0;have HGE:=Lib.hid hgn;clear HUG HUB HU0 hgn
     go_enter Tryz.func84,Tryz.ntmps84
     go_wp2_with fail
     (with_reducible refine HO.out.mono ?_)
     rintro r w1 ⟨rfl,b1⟩;have B2:Hid (∀ c,Below w.heap.size w (w1.alloc (.cells c 130))):=Lib.hid (fun c=>b1.trans ((below_alloc w1 _).mono b1.size));have K1:=Lib.hid (fun c=>Blk.new w1 c 130);have c0:=(K1.out #[.int .i64 ver,.int .i64 lin,.int .i64 redo,.int .i64 und,.int .i64 desc,.int .i64 que,.int .i64 tab,.int .u64 gen]).cell (i:=0) rfl;have d0:=HGC.out _ (B2.out #[.int .i64 ver,.int .i64 lin,.int .i64 redo,.int .i64 und,.int .i64 desc,.int .i64 que,.int .i64 tab,.int .u64 gen]);have SZ:=Lib.hid b1.size;clear b1;go_wp2_with fail
     (with_reducible refine(HM.out _).mono ?_)
     rintro r w2 ⟨rfl,b2⟩;have B3:=Lib.hid ((B2.out _).trans (b2.mono (B2.out _).size));have HU2:=Lib.hid (HU1.out w2 B3.out);have K2:=Lib.hid ((K1.out _).below b2);have SZ2:=Lib.hid b2.size;clear b2 HU1 c0 d0;go_wp2_with fail
     (with_reducible refine HU2.out.mono ?_)
     rintro r w3 ⟨rfl,k3,z3,b3,h3⟩;have K3:=Lib.hid (show Blk w3 w1.heap.size _ 130 from(k3 w1.heap.size SZ.out (by have:=SZ2.out;simp at this;omega)).trans K2.out);have B4:=Lib.hid b3;have H3:=Lib.hid h3
     clear k3 z3 b3 h3 HU2;go_wp2_with fail
     (with_reducible refine H3.out.mono ?_)
     rintro r w4 ⟨rfl,b4⟩;have K4:=Lib.hid (K3.out.below b4);have B5:=Lib.hid (B4.out.trans (b4.mono (Nat.le_trans HB0.out B4.out.size)));have c0:=K4.out.cell (i:=0) rfl;have c1:=K4.out.cell (i:=1) rfl;have c2:=K4.out.cell (i:=2) rfl;have c3:=K4.out.cell (i:=3) rfl
     have c4:=K4.out.cell (i:=4) rfl;have c5:=K4.out.cell (i:=5) rfl;have c6:=K4.out.cell (i:=6) rfl;have c7:=K4.out.cell (i:=7) rfl
     have f0:=K4.out.frozen 0;have f1:=K4.out.frozen 1;have f2:=K4.out.frozen 2;have f3:=K4.out.frozen 3
     have f4:=K4.out.frozen 4;have f5:=K4.out.frozen 5;have f6:=K4.out.frozen 6;have f7:=K4.out.frozen 7
     have hs:=Nat.le_trans HB0.out SZ.out;clear b4;go_wp2_with fail
     go_ret
     refine⟨by simp[HGE.out],?_⟩
     exact(((((((B5.out.setCell hs _).setCell hs _).setCell hs _).setCell hs _).setCell hs _).setCell hs _).setCell hs _).setCell hs _
end
end

section
open Go.RowKit Go.Maps
structure RLog(w:World)(v:DV)(own:Nat→Option Role)(D:Dev)(lb j off len:Nat):Prop where
 dev:IsDev w v own D
 blk:Blk w lb #[.iface 40 (.pointer (some ⟨v.tb j,0,none⟩)),.int .u64 off,.int .u64 len] 206
 ob:own lb=none
 hj:j<8
 n26:1664≤len
 o64:off%64=0
 l64:len%64=0
 fit:off+len≤64*D.n
def ErrNil(w:World)(e:Int)(r:Ending)(w':World):Prop:=r = .returned (.tuple #[.slice none 0 0,.int .i64 e])∧Below w.heap.size w w'
def OpenErr(w:World)(e:Int)(r:Ending)(w':World):Prop:=r = .returned (.tuple #[.pointer none,.int .i64 e])∧Below w.heap.size w w'
def OpenPost(w:World)(v:DV)(own:Nat→Option Role)(D:Dev)(j off len:Nat)(r:Ending)(w':World):Prop:=
 r = .returned (.tuple #[.pointer (some ⟨w.heap.size,0,none⟩),.int .i64 0])∧RLog w' v own D w.heap.size j off len∧Below w.heap.size w w'
theorem nilA_Load(a:Addr)(w:World):(nilAhead 461 40 (.pointer (some a)) "Load").run Tryz.prog w = .ok (some false) w:=by kernel_rfl
section
variable{w:World}{v:DV}{own:Nat→Option Role}{D:Dev}{lb j off len:Nat}
theorem RLog.below{w':World}(h:RLog w v own D lb j off len)(hb:Below w.heap.size w w'):RLog w' v own D lb j off len:=⟨h.dev.below hb,h.blk.below hb,h.ob,h.hj,h.n26,h.o64,h.l64,h.fit⟩
theorem RLog.alloc(h:RLog w v own D lb j off len)(o:Obj):RLog (w.alloc o) v own D lb j off len:=h.below (below_alloc w o)
theorem RLog.drew(h:RLog w v own D lb j off len):RLog w.drew v own D lb j off len:=h.below ((Below.refl _ _).drew)
theorem RLog.c0(h:RLog w v own D lb j off len):w.cell? ⟨lb,0,none⟩=some (.iface 40 (.pointer (some ⟨v.tb j,0,none⟩))):=h.blk.cell rfl
theorem RLog.c1(h:RLog w v own D lb j off len):w.cell? ⟨lb,1,none⟩=some (.int .u64 off):=h.blk.cell rfl
theorem RLog.c2(h:RLog w v own D lb j off len):w.cell? ⟨lb,2,none⟩=some (.int .u64 len):=h.blk.cell rfl
theorem RLog.bd(h:RLog w v own D lb j off len):off+len≤262144∧D.n≤4096:=by have:=h.dev.wf.le;have:=h.fit;omega
theorem lload(h:RLog w v own D lb j off len)(ho:D.off=false)(hvb:D.VB)(o:Nat)(h8:o%8=0)(hl:o<64*D.n) :
  Calls Tryz.prog 290 #[.pointer (some ⟨v.tb j,0,none⟩),.int .u64 o] w fun r w'=>r = .returned (.int .u64 (((D.cur (o/8)).toNat:Nat):Int))∧w=w':=by
 have:=load_ok h.dev h.hj o ho h8 hl;rw[Int.toNat_of_nonneg (hvb.cur (o/8)).1];exact this
theorem rdhandle_arg(a:Addr)(x y:Int)(h:x<0∨y<26):Calls Tryz.prog 47 #[.iface 40 (.pointer (some a)),.int .i64 x,.int .i64 y] w (OpenErr w 1):=by
 by_cases hx:x<0
 ·go_enter Tryz.func47,Tryz.ntmps47
  go_wp2_with fail
  go_ret2
  exact⟨rfl,Below.refl _ _⟩
 ·have hy:y<26:=by omega
  clear h
  go_enter Tryz.func47,Tryz.ntmps47
  go_wp2_with fail
  go_ret2
  exact⟨rfl,Below.refl _ _⟩
theorem rdhandle_range(h:IsDev w v own D)(hj:j<8)(x y:Nat)(hx:x<9223372036854775808)(hy:y<9223372036854775808)(h2:26≤y)(hr:D.n<x+y) :
  Calls Tryz.prog 47 #[.iface 40 (.pointer (some ⟨v.tb j,0,none⟩)),.int .i64 x,.int .i64 y] w (OpenErr w 1):=by
 have hm1:=meth_Size ⟨v.tb j,0,none⟩;have HT:=Lib.hid (thrSize_any h hj);have hn:=h.wf.le;have hx0:¬ (x:Int)<0:=by omega
 have hy2:¬ (y:Int)<26:=by omega
 have hq:(D.n:Int)*64/64=D.n:=by omega
 clear h
 by_cases hyn:D.n<y
 ·have hyn':(D.n:Int)<y:=by omega
  go_enter Tryz.func47,Tryz.ntmps47
  go_wp2_with fail
  (with_reducible refine HT.out.mono ?_)
  rintro e w' ⟨rfl,rfl⟩;go_wp2_with fail
  go_ret2
  exact⟨rfl,Below.refl _ _⟩
 ·have hyn':¬ (D.n:Int)<y:=by omega
  have hxn:(D.n:Int)-y<x:=by omega
  go_enter Tryz.func47,Tryz.ntmps47
  go_wp2_with fail
  (with_reducible refine HT.out.mono ?_)
  rintro e w' ⟨rfl,rfl⟩;go_wp2_with fail
  go_ret2
  exact⟨rfl,Below.refl _ _⟩
theorem rdhandle_ok(h:IsDev w v own D)(hj:j<8)(x y:Nat)(h2:26≤y)(hr:x+y≤D.n) :
  Calls Tryz.prog 47 #[.iface 40 (.pointer (some ⟨v.tb j,0,none⟩)),.int .i64 x,.int .i64 y] w (OpenPost w v own D j (64*x) (64*y)):=by
 have hm1:=meth_Size ⟨v.tb j,0,none⟩;have HT:=Lib.hid (thrSize_any h hj);have hn:=h.wf.le;have H:=Lib.hid h;have hx0:¬ (x:Int)<0:=by omega
 have hy2:¬ (y:Int)<26:=by omega
 have hq:(D.n:Int)*64/64=D.n:=by omega
 have hyn':¬ (D.n:Int)<y:=by omega
 have hxn:¬ (D.n:Int)-y<x:=by omega
 have e64:(x:Int)*64=((64*x:Nat):Int):=by omega
 have f64:(y:Int)*64=((64*y:Nat):Int):=by omega
 have E64:=Lib.hid e64;have F64:=Lib.hid f64;clear h e64 f64
 go_enter Tryz.func47,Tryz.ntmps47
 go_wp2_with fail
 (with_reducible refine HT.out.mono ?_)
 rintro e w' ⟨rfl,rfl⟩;go_wp2_with fail
 go_ret2
 refine⟨rfl,⟨H.out.alloc _,?_,?_,hj,by omega,by omega,by omega,by omega⟩,below_alloc _ _⟩
 ·have:=Blk.new w #[.iface 40 (.pointer (some ⟨v.tb j,0,none⟩)),.int .u64 ((64*x:Nat):Int),.int .u64 ((64*y:Nat):Int)] 206
  rw[← E64.out,← F64.out]at this;have e3:=E64.out;rw[← E64.out,← F64.out];exact this
 ·cases ho:own w.heap.size with
  | none=>rfl
  | some r=>have:=H.out.lt w.heap.size (by rw[ho];simp);omega
theorem rdOpen_ok(h:IsDev w v own D)(hj:j<8)(x y:Nat)(h2:26≤y)(hr:x+y≤D.n) :
  Calls Tryz.prog 65 #[.iface 40 (.pointer (some ⟨v.tb j,0,none⟩)),.int .i64 x,.int .i64 y] w (OpenPost w v own D j (64*x) (64*y)):=by
 have HO:=Lib.hid (rdhandle_ok h hj x y h2 hr);clear h
 go_enter Tryz.func65,Tryz.ntmps65
 go_wp2_with fail
 (with_reducible refine HO.out.mono ?_)
 rintro e w1 ⟨rfl,l1,b1⟩;have L1:=Lib.hid l1;have B1:=Lib.hid b1;clear l1 b1 HO
 go_wp2_with fail
 go_ret2
 exact⟨rfl,L1.out,B1.out⟩
theorem rdmark_any(h:RLog w v own D lb j off len)(x:Int)(_hx:0≤x∧x<18446744073709551616):Calls Tryz.prog 155 #[.pointer (some ⟨lb,0,none⟩),.int .u64 x] w
  fun r w'=>∃ ov,r = .returned ov∧Acc w w.heap.size w' 73 3 ov (storesL [(off,x)]).length (instrC (storesL [(off,x)])):=by
 have c1:=h.c1;have hb:=h.bd;have HS:=Lib.hid (stores_any (w:=w.alloc (.cells #[.int .u64 off,.int .u64 x] 140)) (.slice (some ⟨w.heap.size,0,none⟩) 1 1) [(off,x)] (by exact RdSl.new w _ _ 2 1 rfl) (by simp) (fun e he=>by simp at he;subst he;simp only;omega));clear h
 go_enter Tryz.func155,Tryz.ntmps155
 go_wp2_with fail
 (with_reducible refine HS.out.mono ?_)
 rintro e w1 ⟨ov,rfl,a1⟩;have A1:=Lib.hid (a1.deeper (below_alloc _ _));clear a1 HS
 go_wp2_with fail
 go_ret
 exact⟨_,rfl,A1.out⟩
end
end
section
open Go.RowKit Go.Maps
theorem flushL_okR(offs:List Nat)(h:∀ o∈offs,o<18446744073709551616):instrOk (flushL offs):=by
 intro e he;unfold flushL at he
 split at he
 ·simp at he
 ·rcases List.mem_append.1 he with h1 | h1
  ·obtain⟨l,hl,rfl⟩:=List.mem_map.1 h1
   have:=linesL_bd offs 288230376151711744 (fun o ho=>by have:=h o ho;omega) l hl;exact⟨by simp,by simp,by simp only;omega⟩
  ·simp at h1;subst h1;exact⟨by simp,by simp,by simp⟩
theorem storesL_okR(ws:List (Nat×Int))(h:∀ e∈ws,e.1<18446744073709551616):instrOk (storesL ws):=by
 intro e he;unfold storesL at he
 rcases List.mem_append.1 he with h1 | h1
 ·obtain⟨x,hx,rfl⟩:=List.mem_map.1 h1
  exact⟨by simp,by simp,h x hx⟩
 ·exact flushL_okR _ (fun o ho=>by obtain⟨x,hx,rfl⟩:=List.mem_map.1 ho;exact h x hx) e h1
theorem instrOk_appendR{a b:List (Nat×Nat×Int)}(ha:instrOk a)(hb:instrOk b):instrOk (a++b):=fun e he=>by
 rcases List.mem_append.1 he with h | h
 ·exact ha e h
 ·exact hb e h
theorem storesL_lenR(ws:List (Nat×Int)):(storesL ws).length≤2*ws.length+1:=by
 have:=flushL_len (ws.map (·.1));unfold storesL;rw[List.length_append,List.length_map];rw[List.length_map]at this;omega
theorem store1_len(off:Nat)(x:Int):(storesL [(off,x)]).length≤3:=by have:=storesL_lenR [(off,x)];simpa using this
def VIn(V:List (Nat×Int)):Prop:=V.length≤10000∧∀ e∈V,e.1<18446744073709551616
theorem rFinP_ok{off:Nat}{V:List (Nat×Int)}(ho:off<18446744073709551616)(hV:VIn V):instrOk (rFinP off V):=instrOk_appendR (storesL_okR _ hV.2) (storesL_okR _ (fun e he=>by simp at he;subst he;exact ho))
theorem rFinP_len(off:Nat)(V:List (Nat×Int)):(rFinP off V).length≤2*V.length+4:=by
 have h1:=storesL_lenR V;have h2:=store1_len off 0
 unfold rFinP;rw[List.length_append];omega
theorem rPlanP_len(off:Nat)(W:List (Nat×Int)):(rPlanP off W).length≤6*W.length+8:=by
 unfold rPlanP
 split
 ·simp
 ·have h1:=storesL_lenR (planWs (off+64) W);have h2:=store1_len off (cmtN W:Int);have h3:=rFinP_len off W
  rw[planWs_len]at h1;rw[List.length_append,List.length_append];omega
theorem rPlanP_ok{off:Nat}{W:List (Nat×Int)}(ho:off+64+16*W.length<18446744073709551616)(hV:VIn W):instrOk (rPlanP off W):=by
 unfold rPlanP
 split
 ·intro e he;simp at he
 ·exact instrOk_appendR (instrOk_appendR (storesL_okR _ (fun e he=>by have:=planWs_bd W _ e he;omega)) (storesL_okR _ (fun e he=>by simp at he;subst he;simp only;omega))) (rFinP_ok (by omega) hV)
section
variable{w:World}{v:DV}{own:Nat→Option Role}{D:Dev}{lb j off len:Nat}
theorem DPost.pastR{w1 w2:World}{D':Dev}(hb:Below w.heap.size w w1)(h:DPost v own w1 D' w2):DPost v own w D' w2:=DPost.next (fun _ _=>rfl) (Upd.of_below hb) h
theorem run_accR(h:IsDev w v own D)(hj:j<8){w1:World}{pv:Value}{P:List (Nat×Nat×Int)}(ha:Acc w w.heap.size w1 73 3 pv P.length (instrC P))(hi:instrOk P)(hl:P.length≤100000)(hx:D.exec+100000<4294967296) :
  Calls Tryz.prog 12 #[pv,.iface 40 (.pointer (some ⟨v.tb j,0,none⟩))] w1 fun r w'=>r = .returned (.int .i64 ((D.run j P).err j))∧DPost v own w (D.run j P) w':=
 (run_any (h.below ha.bel) hj pv P ha.rd (fun k hk=>by
  have:=ha.new k hk
  cases ho:own k with
  | none=>rfl
  | some r=>have:=h.lt k (by rw[ho];simp);omega) hi hl (by omega)).mono fun r w' hp=>⟨hp.1,hp.2.pastR ha.bel⟩
theorem rdFormat_ok(h:IsDev w v own D)(hj:j<8)(x y:Nat)(h2:26≤y)(hr:x+y≤D.n)(he:D.err j=0)(hx:D.exec+100000<4294967296) :
  Calls Tryz.prog 100 #[.iface 40 (.pointer (some ⟨v.tb j,0,none⟩)),.int .i64 x,.int .i64 y] w fun r w'=>r = .returned (.int .i64 ((D.run j (storesL [(64*x,0)])).err j))∧DPost v own w (D.run j (storesL [(64*x,0)])) w':=by
 have HO:=Lib.hid (rdhandle_ok h hj x y h2 hr);have hm1:=meth_Err ⟨v.tb j,0,none⟩;have hn:=h.wf.le;have hE:=fun wx (hx:IsDev wx v own D)=>err_any hx hj
 rw[he]at hE;have HE:=Lib.hid hE;have HR:=Lib.hid (fun(w1 w2:World) pv (hb:IsDev w1 v own D) ha=>run_accR (w:=w1) hb hj (w1:=w2) (pv:=pv) (P:=storesL [(64*x,0)]) ha (storesL_okR _ (fun e he=>by simp at he;subst he;simp only;omega)) (by have:=store1_len (64*x) 0;omega) hx);clear h hE
 go_enter Tryz.func100,Tryz.ntmps100
 go_wp2_with fail
 (with_reducible refine HO.out.mono ?_)
 rintro e w1 ⟨rfl,l1,b1⟩;have L1:=Lib.hid l1;have B1:=Lib.hid b1;clear l1 b1 HO
 have HM:=Lib.hid (rdmark_any L1.out 0 (by omega));go_wp2_with fail
 (with_reducible refine(HE.out _ L1.out.dev).mono ?_)
 rintro e w' ⟨rfl,rfl⟩;go_wp2_with fail
 (with_reducible refine HM.out.mono ?_)
 rintro e w2 ⟨ov,rfl,a2⟩;have HR2:=Lib.hid (HR.out w1 w2 ov L1.out.dev a2);obtain⟨oa,oc,hov⟩:=a2.slice;subst hov;clear a2 HM HR;go_wp2_with fail
 (with_reducible refine HR2.out.mono ?_)
 rintro e w3 ⟨rfl,p3⟩;have P3:=Lib.hid (p3.pastR B1.out);clear p3
 go_wp2_with fail
 go_ret
 exact⟨rfl,P3.out⟩
end
end
end Go.Proofs.YtlhchkajjpefmaaGreatDoor
