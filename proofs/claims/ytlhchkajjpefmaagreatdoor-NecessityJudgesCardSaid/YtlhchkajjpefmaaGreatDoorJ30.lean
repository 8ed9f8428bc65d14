/- Lemmas and walks, part 30: each theorem says what it proves; no condition beside its own. -/
import Derived.Test.YtlhchkajjpefmaaGreatDoorJ29
import Derived.ProofKit
import Derived.OpenShut
set_option maxHeartbeats 16000000
set_option maxRecDepth 100000
namespace Go.Proofs.YtlhchkajjpefmaaGreatDoor
open Lib(hid)
open Go.RowKit Go.Proofs.Tryz
section
open Go.Maps
attribute [local go_sem ↓] Go.wp_at_zero Go.wp_at_succ
theorem Qxh(E:Dev)(o:Nat)(x:Int):(E.store 0 o x).exec<=E.exec+1:=E.run_exec 0 [(1,o,x)]
theorem Qxi(E:Dev)(o:Nat)(x:Int):((E.store 0 o x).flush 0 o).exec<=E.exec+2:=E.run_exec 0 [(1,o,x),(2,o,0)]
theorem Qx4{sa:Option Addr}{n m sc k:Nat}(h:(Value.slice sa n sc).ownBlock=some k):(Value.slice sa m sc).ownBlock=some k:=by
 cases sa with
 | none=>exact h
 | some a=>exact h
section
variable{w:World}
theorem Qaq(which cut:Int)(x:Nat)(hx:x<18446744073709551616)(hN:Nib w) :
  Calls prog 4 #[.int .i64 which,.int .i64 cut,.int .u64 x] w fun r w'=>r = .returned (.bool true)/\Below w.heap.size w w':=by
 obtain⟨t,ht1,ht2,ht3,s,hs1,hs2,hs3⟩:=Q5k which;have HA:=hid (fun(wx:World) (hb:Below w.heap.size w wx)=>Wn (w:=wx) (hN.below hb) (hN.below hb).lt);have HNB:=hid (fun(wx:World) (hb:Below w.heap.size w wx)=>hN.below hb);have HW:=hid (Im (w:=w));have HNW:Hid (∀ wx:World,Calls prog 10 #[.int .i64 64] wx fun r w'=>∃ v own,r = .returned (.tuple #[.pointer (some ⟨v.db,0,none⟩),.int .i64 0])/\IsDev w' v own (Dev.fresh 64 (fun _=>0))/\(∀ k,own k≠none->wx.heap.size<=k)/\Below wx.heap.size wx w'):=hid (fun wx=>Qat (w:=wx) 64 (by omega) (by omega));have HS:=hid hs3;have hlt:(s:Int)<6:=by omega
 have h0:(0:Int)<=s:=by omega
 clear hN hs3
 go_enter func4,ntmps4
 go_wp2_with fail
 (with_reducible refine HW.out.mono ?_)
 rintro r w1 ⟨rfl,b1⟩;have B1:=hid b1;clear b1 HW;go_wp2_with fail
 (with_reducible refine(HA.out _ B1.out).mono ?_)
 rintro r w2 ⟨b,ad,rfl,row,hl,b2⟩;obtain⟨sp,q,C,ok,g,g64,okB,E,hj⟩:=(hl 64 (by omega) (by omega)).atJ HS.out;have cA:w2.cell? ⟨b,s,none⟩=some (.iface 160 (.pointer (some ⟨ad s,0,none⟩))):=row.cell HS.out;have B2:=hid (B1.out.trans (b2.mono B1.out.size));have EH:=hid E;have HJ:=hid hj
 clear row hl b2 E hj HA B1;go_wp2_with fail
 (with_reducible refine(HNW.out _).mono ?_)
 rintro r w3 ⟨v,own,rfl,d3,o3,b3⟩;have HSU:=hid (EH.out.P.setup w3 v own w2.heap.size b3 o3 (Nat.le_refl _) b3.size d3);have B3:=hid b3;have hms:=Gz ⟨ad s,0,none⟩;clear d3 o3 b3 HNW cA;go_wp2_with fail
 (with_reducible refine HSU.out.mono ?_)
 rintro r w4 ⟨rfl,own4,p4⟩;have P4:=hid p4;have B4:=hid (B3.out.trans p4.bel);clear p4 HSU hms;have hmp:=Kk ⟨ad s,0,none⟩;have hnl:=Wu ⟨ad s,0,none⟩
 have HTH:=hid (fun(wx:World) (hx:IsDev wx v own4 ((Dev.fresh 64 (fun _=>0)).run 0 sp))=>Xa hx);have D4d:Hid (IsDev w4.drew v own4 ((Dev.fresh 64 (fun _=>0)).run 0 sp)):=P4.out.dev.drew;have HP:=hid (EH.out.P.prog w4.drew v own4 B4.out.drew P4.out.ab D4d.out);go_wp2_with fail
 go_region_with (first | (go_at_call 11;(with_reducible refine(HTH.out _ D4d.out).mono ?_);rintro e w' ⟨rfl,rfl⟩) | (go_at_call 304;(with_reducible refine HP.out.mono ?_);rintro e w5 ⟨sv,rfl,a5⟩;have A5:=hid a5;clear a5))
 all_goals
  obtain⟨sa,sc,hsv⟩:=A5.out.slice;subst hsv;have hq:=EH.out.P.len;have BH:=hid (fun c=>EH.out.behind c);have P5:=hid (P4.out.drew.next (A5.out.bel));have B5:=hid (B4.out.drew.trans (A5.out.bel.mono B4.out.size));have RD5:=hid A5.out.rd;have NW5:Hid (∀ (n:Nat) k,(Value.slice sa n sc).ownBlock=some k->own4 k=none):=hid (fun n k hk=>by
   have h1:=A5.out.new k (Qx4 hk)
   cases ho:own4 k with
   | none=>rfl
   | some ro=>
    have h2:=P4.out.dev.lt k (by rw[ho];simp);rw[World.size_drew]at h1;omega)
  obtain⟨D1,hD1⟩:∃ D1,(Dev.fresh 64 (fun _=>0)).run 0 sp=D1:=⟨_,rfl⟩;have HGO:=hid (fun(c:Nat) (hc:c<=q.length) (i:Nat) hi=>EH.out.good (k:=c) hc (i:=i) hi);have HJO:=hid (fun(h2:2<=s) (c:Nat) (hc:c<=q.length) (i:Nat) hi=>EH.out.judge (s:=s) (HJ.out h2) (k:=c) hc (i:=i) hi);have HGD:=hid (fun(wx:World) (v2:DV) (own2:Nat->Option Qp) (D:Dev) (y:Nat) (F:Nat->Int) (B:Nat) (e:Bool)=>EH.out.P.good wx v2 own2 D y F B e);rw[hD1]at BH P5 HGO HJO;clear hD1 EH HJ HTH D4d HP A5 hmp hnl P4 B4;obtain⟨m,hm⟩:∃ m,q.length=m:=⟨_,rfl⟩;have HM:=hid hm;rw[hm]at RD5 HGO HJO hq ⊢;have hmc:m<=sc:=by obtain⟨_,_,_,e,h1,_⟩:=RD5.out;cases e;exact h1
  clear hm;obtain⟨t2,hc1,hc2,hc3,hc4,hc5,c,hc6,hc7,hc8⟩:=Qyk cut m (by omega);have hm0:¬ (m:Int)+1=0:=by omega
  have hcs:(c:Int)<=sc:=by omega
  have hc0:(0:Int)<=c:=by omega
  have RT:Hid (Ql w5 3 (.slice sa c sc) (q.take c).length (Qd (q.take c))):=hid (by
   have h1:=RD5.out.takeG c hc8;rw[Qfn]at h1
   rwa [List.length_take,HM.out,Nat.min_eq_left hc8])
  have hbh:=BH.out c;have HRUN:=hid (Km (w:=w5.drew) (v:=v) (own:=own4) (D:=D1) (j:=0) P5.out.dev.drew (by omega) (.slice sa c sc) (q.take c) RT.out.drew (NW5.out c) hbh.2.2.2.2.2.1 (by rw[List.length_take];omega) (by have:=hbh.2.2.2.2.1;rw[List.length_take];omega));rw[hbh.2.2.2.1]at HRUN;have hbn:=hbh.1;have hbv:=hbh.2.1;have hbx:=hbh.2.2.1
  have HTH:=hid (fun(wx:World) (hx:IsDev wx v own4 D1)=>Xa hx);have D5d:Hid (IsDev w5.drew v own4 D1):=P5.out.dev.drew;obtain⟨D2,hD2⟩:∃ D2,D1.run 0 (q.take c)=D2:=⟨_,rfl⟩;have HPR:=hbh.2.2.2.2.2.2.1;have HHI:=hbh.2.2.2.2.2.2.2
  have HGO1:=hid (HGO.out c hc8);have HJO1:=hid (fun h2=>HJO.out h2 c hc8)
  rw[hD2]at HRUN hbn hbv hbx HPR HHI HGO1 HJO1;have HP:=hid HPR;have HH:=hid HHI
  clear hbh hD2 HGO HJO RT RD5 NW5 BH HPR HHI HM;go_wp2_with fail
  go_region_with (first | (go_at_call 11;(with_reducible refine(HTH.out _ D5d.out).mono ?_);rintro e w' ⟨rfl,rfl⟩) | (go_at_call 12;(with_reducible refine HRUN.out.mono ?_);rintro e w6 ⟨rfl,hp⟩;obtain⟨own6,p6⟩:=P5.out.drew.post hp;have P6:=hid p6;clear hp p6))
  all_goals
   have B6:=hid (B3.out.trans P6.out.bel);have HB2:Hid (w2.heap.size<=w6.heap.size):=hid B6.out.size;obtain⟨P,hP⟩:∃ P,Qm (Qf D2)=P:=⟨_,rfl⟩;have hPp:0<P:=by rw[<- hP];exact Qpg _ (Mv D2)
   obtain⟨i,hi⟩:∃ i,x%P=i:=⟨_,rfl⟩;have hiP:i<P:=by rw[<- hi];exact Nat.mod_lt _ hPp
   have hix:i<=x:=by rw[<- hi];exact Nat.mod_le _ _
   have hxm:(x:Int).tmod (P:Int)=(i:Int):=by rw[Int.tmod_eq_emod_of_nonneg (by omega),<- hi];rfl
   have hi64:IntKind.u64.wrap (i:Int)=(i:Int):=IntWalk.u64_in _ (by omega);have hP0:¬ P=0:=by omega
   have HCN:=hid (As P6.out.dev hbv (by omega) HP.out HH.out);have HAT:=hid (fun(wx:World) (hb:Below w6.heap.size w6 wx)=>Se (P6.out.dev.below hb) hbv (by omega) i (by rw[hP];exact hiP) HP.out HH.out);have HIW:=hid (fun(ks:Nat->Nat) (hk:∀ j l:Nat,D2.dirtyL[j]? = some l->ks l=Lx (Qf D2) i j)=>Qcy (n:=D2.n) rfl hk);have HIB:=hid (fun ks j=>hbv.img ks j);have hgood:=HGO1.out i (by rw[hP];exact hiP);have hjud:=fun h2=>HJO1.out h2 i (by rw[hP];exact hiP)
   rw[hP]at HCN;rw[hbn]at HIW;have HBN:=hid hbn;obtain⟨F,hF⟩:∃ F,Vy D2 i=F:=⟨_,rfl⟩;have HFB:Hid (Bd F):=hid (by rw[<- hF];exact fun j=>HIB.out _ j);rw[hF]at hgood hjud;have HFF:=hid hF;obtain⟨eb,heb⟩:∃ eb,((c:Int)==(m:Int))=eb:=⟨_,rfl⟩;have hde:decide (c=m)=eb:=by
    rw[<- heb]
    by_cases hkm:c=m
    ·subst hkm;simp
    ·have:¬ (c:Int)=(m:Int):=by omega
     simp[hkm,this]
   rw[hde]at hgood hjud;have HGOOD:=hid hgood;have HJUD:=hid hjud
   clear hP hi hiP hgood hjud hF hde HGO1 HJO1 HP HH hbv hbx hbn HRUN HTH D5d P5 B5;go_wp2_with fail
   (with_reducible refine HCN.out.mono ?_)
   rintro r w7 ⟨rfl,b7⟩;have HAT1:=hid (HAT.out w7 b7);have B7:=hid (B6.out.trans (b7.mono HB2.out));clear b7 HCN HAT;go_wp2_with fail
   (with_reducible refine HAT1.out.mono ?_)
   rintro r w8 ⟨ks,str,k1,rfl,k2,b8⟩;have K1:=hid k1.2;rw[HBN.out]at k2;have B8:=hid (B7.out.trans (b8.mono B7.out.size));have X8:=hid (Blk.new w8 #[.string str] 46);have B8a:=hid (B8.out.trans ((Qa w8 (.cells #[.string str] 46)).mono B8.out.size));have HDV:=hid (fun(wx:World)=>(Gu (w:=wx) k2 (by omega) (by omega) (fun j=>HIB.out ks j)).mono fun r w' ⟨v',own',h1,⟨f,hf,hd⟩,h3,h4⟩=>(show ∃ (v':DV) (own':Nat->Option Qp),r=Ending.returned (.tuple #[.pointer (some ⟨v'.db,0,none⟩),.int .i64 0])/\IsDev w' v' own' (Dev.fresh 64 F)/\(∀ k,own' k≠none->wx.heap.size<=k)/\Below wx.heap.size wx w' from
    ⟨v',own',h1,HFF.out ▸ ((hd.words hf).words (g:=Vy D2 i) (fun j hj=>HIW.out ks K1.out j hj)),h3,h4⟩))
   clear k1 k2 b8 HAT1;go_wp2_with fail
   (with_reducible refine(HDV.out (w8.alloc _)).mono ?_)
   rintro r w9 ⟨v2,own2,rfl,d9,o9,b9⟩;have B9:=hid (B8a.out.trans (b9.mono B8a.out.size));have T9:=hid b9;have HGD1:=hid (HGD.out w9 v2 own2 (Dev.fresh 64 F) 0 F (w8.heap.size+1) eb B9.out HGOOD.out.1 (Xz HFB.out 0 64) (by omega) d9 (fun k hk=>by have:=o9 k hk;rwa [World.size_alloc]at this) (by have:=B8.out.size;omega) (by have:=b9.size;rwa [World.size_alloc]at this));rw[HGOOD.out.2]at HGD1;have hmg:=Wr ⟨ad s,0,none⟩;clear d9 o9 b9;go_wp2_with fail
   (with_reducible refine HGD1.out.mono ?_)
   rintro r w10 ⟨rfl,b10⟩;have X10:Hid (Blk w10 w8.heap.size #[.string str] 46):=hid ((b10.block w8.heap.size (by omega)).trans ((X8.out.below T9.out)));have B10:=hid (B9.out.trans (b10.mono (by have:=B8.out.size;omega)));clear b10 HGD1 T9 X8
   by_cases hs01:s<2
   ·have hs0:s=0\/s=1:=by omega
    have HB:=hid (B2.out.trans (B10.out.mono B2.out.size))
    rcases hs0 with h | h
    ·have e0:((s:Int)==0)=true:=by rw[h];rfl
     clear h hs01;go_wp2_with fail
     go_ret
     exact⟨rfl,HB.out⟩
    ·have e0:((s:Int)==0)=false:=by rw[h];rfl
     have e1:((s:Int)==1)=true:=by rw[h];rfl
     clear h hs01;go_wp2_with fail
     go_ret
     exact⟨rfl,HB.out⟩
   ·have e0:((s:Int)==0)=false:=by simp;omega
    have e1:((s:Int)==1)=false:=by simp;omega
    have HJD:=hid (HJUD.out (by omega));have c10:=X10.out.cell (i:=0) (v:=.string str) rfl;clear hs01 HJUD HGOOD;go_wp2_with fail
    (with_reducible refine(HDV.out w10).mono ?_)
    rintro r w11 ⟨v3,own3,rfl,d11,o11,b11⟩;have P11:Hid (Pst w10.heap.size w11 v3 (Dev.fresh 64 F) own3 w11):=hid (Pst.start d11 o11 b11.size);have B11:=hid (B10.out.trans (b11.mono B10.out.size));have BW:=hid (B2.out.trans (B11.out.mono B2.out.size));have HTH:=hid (Xa d11);have S0:=hid (Xz HFB.out 0 64);have hn64:(Dev.fresh 64 F).n=64:=rfl;have HLK:Hid (Calls prog 16 #[(.iface 40 (.pointer (some ⟨v3.tb 0,0,none⟩))),.int .i64 10,.int .i64 26] w11 fun r w'=>∃ sv,r = .returned (.tuple #[.int .u8 ((rdL 64 F).1:Nat),sv])/\Below w11.heap.size w11 w'):=hid ((Fz (HNB.out w11 BW.out) d11 (j:=0) (by omega) 10 26 (by omega) (by omega) S0.out.grp.on.off S0.out.vb).mono fun r w' hp=>by
     rw[S0.out.grp.on.n,S0.out.cur]at hp;obtain⟨sv,h1,h2⟩:=hp;exact⟨sv,h1,h2.bel⟩)
    have HUL:Hid (∀ wx,Below w11.heap.size w11 wx->Calls prog 17 #[(.iface 40 (.pointer (some ⟨v3.tb 0,0,none⟩))),.int .i64 10,.int .i64 2] wx fun r w'=>∃ sa sc,r = .returned (.slice sa (Qk F 640 2).length sc)/\Below wx.heap.size wx w'):=hid (fun wx hb=>(Mh (d11.below hb) (j:=0) (by omega) 10 2 (by omega) (by omega) S0.out.grp.on.off S0.out.vb).mono fun r w' hp=>by
     rw[S0.out.cur]at hp;obtain⟨sv,rfl,h2⟩:=hp;obtain⟨sa,sc,rfl⟩:=h2.slice;exact⟨sa,sc,rfl,h2.bel⟩)
    clear d11 o11 b11 HDV c10 X10 hn64;go_wp2_with fail
    (with_reducible refine HTH.out.mono ?_)
    rintro r w11' ⟨rfl,rfl⟩;go_wp2_with fail
    (with_reducible refine HLK.out.mono ?_)
    rintro r w12 ⟨sv12,rfl,b12⟩;have T12:=hid b12;obtain⟨st,hst⟩:∃ st,(rdL 64 F).1=st:=⟨_,rfl⟩;obtain⟨ln,hln⟩:∃ ln,(Qk F 640 2).length=ln:=⟨_,rfl⟩;rw[hln]at HUL;have hjs:Qnq s F=((decide (s=2)&&decide (st≠1)) || (decide (s=3)&&decide (0<ln))):=by unfold Qnq;rw[hst,hln]
    rw[hst];have HSS:=hid HS.out;clear b12 HLK hst hln HTH
    by_cases hjt:Qnq s F=true
    ·rw[hjs]at hjt
     simp only[Bool.or_eq_true,Bool.and_eq_true,decide_eq_true_eq]at hjt
     rcases hjt with ⟨h1,h2⟩ | ⟨h1,h2⟩
     ·have e2:((s:Int)==2)=true:=by rw[h1];rfl
      have e3:((st:Int) != 1)=true:=by simp;omega
      clear h1 h2 hjs;go_wp2_with fail
      go_ret
      exact⟨rfl,BW.out.trans (T12.out.mono BW.out.size)⟩
     ·have e2:((s:Int)==2)=false:=by rw[h1];rfl
      have e3:((s:Int)==3)=true:=by rw[h1];rfl
      have HUL1:=hid (HUL.out w12 T12.out);have e4:(0:Int)<ln:=by omega
      clear h1 h2 hjs;go_wp2_with fail
      (with_reducible refine HUL1.out.mono ?_)
      rintro r w13 ⟨sa13,sc13,rfl,b13⟩;have T13:=hid b13;clear b13;go_wp2_with fail
      go_ret
      exact⟨rfl,(BW.out.trans (T12.out.mono BW.out.size)).trans (T13.out.mono (Nat.le_trans BW.out.size T12.out.size))⟩
    ·have hJ:=hid (HJD.out.resolve_left hjt)
     rw[hjs]at hjt;simp only[Bool.or_eq_true,Bool.and_eq_true,decide_eq_true_eq,not_or,not_and]at hjt;have hcase:(s=2/\st=1)\/(s=3/\ln=0)\/(s=4\/s=5):=by
      have h1:=hjt.1;have h2:=hjt.2
      have h3:=HSS.out;have h4:¬ s<2:=by
       have a0:¬ (s:Int)=0:=by simpa using e0
       have a1:¬ (s:Int)=1:=by simpa using e1
       omega
      omega
     have hjo:jo s<512:=by
      rcases hcase with ⟨rfl,_⟩ | ⟨rfl,_⟩ | rfl | rfl <;> decide
     obtain⟨ofi,hofi⟩:∃ ofi:Int,((8*jo s:Nat):Int)=ofi:=⟨_,rfl⟩;have HC30:Hid (∀ wx:World,(wx.alloc (.cells #[.int .u64 0,.int .u64 0,.int .u64 2560,.int .u64 2560,.int .u64 1336,.int .u64 1664] 31)).cell? ⟨wx.heap.size,s,none⟩=some (.int .u64 ofi)):=hid (fun wx=>by
      have K:=Blk.new wx #[.int .u64 0,.int .u64 0,.int .u64 2560,.int .u64 2560,.int .u64 1336,.int .u64 1664] 31;rw[<- hofi]
      rcases hcase with ⟨rfl,_⟩ | ⟨rfl,_⟩ | rfl | rfl <;> exact K.cell rfl)
     have HST:=hid (fun(wx:World) (own':Nat->Option Qp) (d:IsDev wx v3 own' (Dev.fresh 64 F))=>Mf d (j:=0) (by omega) (8*jo s) 99 (show 0<4294967296 by omega));have HFL:=hid (fun(wx:World) (own':Nat->Option Qp) (d:IsDev wx v3 own' ((Dev.fresh 64 F).store 0 (8*jo s) 99))=>Qcr d (j:=0) (by omega) (8*jo s) (by omega) (Nat.lt_of_le_of_lt (Qxh _ _ _) (show 0+1<4294967296 by omega)));have HFE:=hid (fun(wx:World) (own':Nat->Option Qp) (d:IsDev wx v3 own' (((Dev.fresh 64 F).store 0 (8*jo s) 99).flush 0 (8*jo s)))=>Qck d (j:=0) (by omega) (Nat.lt_of_le_of_lt (Qxi _ _ _) (show 0+2<4294967296 by omega)));have S3:=hid (Qsz S0.out hjo);rw[hofi]at HST HFL;obtain⟨Da,hDa⟩:∃ Da,(Dev.fresh 64 F).store 0 (8*jo s) 99=Da:=⟨_,rfl⟩;rw[hDa]at HST HFL HFE S3;obtain⟨Db,hDb⟩:∃ Db,Da.flush 0 (8*jo s)=Db:=⟨_,rfl⟩;rw[hDb]at HFL HFE S3;have HCA:=hid hcase;clear hDa hDb hofi hjo hjs hjt HJD S0 hcase
     rcases HCA.out with ⟨h1,h2⟩ | ⟨h1,h2⟩ | h1
     case' inl=>
      have e2:((s:Int)==2)=true:=by rw[h1];rfl
      have e3:((st:Int) != 1)=false:=by rw[h2];rfl
      have e5:((s:Int)==3)=false:=by rw[h1];rfl
      obtain⟨w13,hw13⟩:∃ y:World,y=w12:=⟨_,rfl⟩;subst hw13;have T13:=hid T12.out;clear h1 h2 T12
     case' inr.inl=>
      have e2:((s:Int)==2)=false:=by rw[h1];rfl
      have e5:((s:Int)==3)=true:=by rw[h1];rfl
      have HUL1:=hid (HUL.out w12 T12.out);have e4:¬ (0:Int)<ln:=by omega
      clear h1 h2;go_wp2_with fail
      (with_reducible refine HUL1.out.mono ?_)
      rintro r w13 ⟨sa13,sc13,rfl,b13⟩;have T13:=hid (T12.out.trans (b13.mono T12.out.size));clear b13 T12
     case' inr.inr=>
      have e2:((s:Int)==2)=false:=by rcases h1 with h1 | h1 <;> (rw[h1];rfl)
      have e5:((s:Int)==3)=false:=by rcases h1 with h1 | h1 <;> (rw[h1];rfl)
      obtain⟨w13,hw13⟩:∃ y:World,y=w12:=⟨_,rfl⟩;subst hw13;have T13:=hid T12.out;clear h1 T12
     all_goals
      have c30:=HC30.out w13;have P13:=hid ((P11.out.next (T13.out)).alloc (.cells #[.int .u64 0,.int .u64 0,.int .u64 2560,.int .u64 2560,.int .u64 1336,.int .u64 1664] 31));have HST1:=hid (HST.out _ _ P13.out.dev);clear HST HUL HCA;go_wp2_with fail
      (with_reducible refine HST1.out.mono ?_)
      rintro r w14 ⟨rfl,hp⟩;obtain⟨own14,p14⟩:=P13.out.post hp;have P14:=hid p14;have HFL1:=hid (HFL.out _ _ P14.out.dev);clear hp p14 HST1 c30;go_wp2_with fail
      (with_reducible refine HFL1.out.mono ?_)
      rintro r w15 ⟨rfl,hp⟩;obtain⟨own15,p15⟩:=P14.out.post hp;have P15:=hid p15;have HFE1:=hid (HFE.out _ _ P15.out.dev);clear hp p15 HFL1;go_wp2_with fail
      (with_reducible refine HFE1.out.mono ?_)
      rintro r w16 ⟨rfl,hp⟩;obtain⟨own16,p16⟩:=P15.out.post hp;have P16:=hid p16;have HGD2:=hid (HGD.out w16 v3 own16 _ (0+3) (jF F (jo s)) w10.heap.size eb (B11.out.trans (P16.out.bel.mono B10.out.size)) hJ.out.1 S3.out (by omega) P16.out.dev P16.out.ab B10.out.size P16.out.size);rw[hJ.out.2]at HGD2;clear hp p16 HFE1;go_wp2_with fail
      (with_reducible refine HGD2.out.mono ?_)
      rintro r w17 ⟨rfl,b17⟩;have HB:=hid (BW.out.trans ((P16.out.bel.trans b17).mono (Nat.le_trans B2.out.size B10.out.size)));clear b17;go_wp2_with fail
      go_ret
      exact⟨rfl,HB.out⟩
end
end

section
open Go.ChangeShapes Go.WideShapes Go.ChangeAt Go.RowKit
theorem Af:ownKnob Tryz.prog.godebug=none:=by kernel_rfl
theorem Qnt:laidOutB prog=true:=by kernel_rfl
section
variable{H:Type}{enc:TypeId×Value->H}
theorem Mg{W W':World}{sp':Nat->Bool}:∀ {ts:List TypeId} {vs:List Value} {ds:List (DataW H)} {ps:List MemPlace},(∀ t∈ts,Tryz.prog.readableRec t=true/\t<Tryz.prog.types.size) ->
  DataW.TrodAll enc prog W 0 (fun _=>true) true ts vs ds ps->(∀ p∈ps,W.sameAt W' p)->(∀ p∈ps,sp' p.block=true)->DataW.TrodAll enc prog W' 0 sp' true ts vs ds ps
 | [],[],[],_,_,h,_,_=>h
 | t::_,_::_,_::_,_,hT,⟨p,q,h1,h2,e⟩,hw,hs=>
  ⟨p,q,WideElems.Trod_stays Qnt (hT t (List.mem_cons.2 (.inl rfl))).1 (hT t (List.mem_cons.2 (.inl rfl))).2 h1 (fun x hx=>hw x (by rw[e];exact List.mem_append_left _ hx)) (fun x hx=>hs x (by rw[e];exact List.mem_append_left _ hx)),
   Mg (fun t ht=>hT t (List.mem_cons.2 (.inr ht))) h2 (fun x hx=>hw x (by rw[e];exact List.mem_append_right _ hx)) (fun x hx=>hs x (by rw[e];exact List.mem_append_right _ hx)),e⟩
theorem Ab{f:Func}{s:ChangeSpec}{W W':World}{args:Array Value}{ds gs:List (DataW H)}{before:List MemPlace}
  (hW:DataW.Whole enc prog f.params.toList s.vars false W args.toList ds gs before) (hvars:s.vars = []) (hr:f.resultTypes = #[4])
  (hs:s.fn H ds={results := [.lit (.bool true)],args:=ds}) (hrd:∀ t∈f.params.toList,Tryz.prog.readableRec t=true/\t<Tryz.prog.types.size) (hb:Below W.heap.size W W') :
  s.post enc prog f false true false false W args (.bool true) W':=by
 have hlt:∀ p∈before,p.block<W.heap.size:=fun p hp=>hW.lt p hp
 have hW':=hW;obtain⟨p,q,hA,hV,rfl,_,_⟩:=hW;rw[hvars]at hV;obtain⟨rfl,rfl⟩:=trodVars_none hV;simp only[List.append_nil]at hlt hW';refine⟨ds,[],p,[],p,[],hW',?_,?_,?_,World.keptBut_mono (fun x hx=>⟨hx,.inr (.inl hx)⟩) (hb.frame (· ∈ p)),fun h=>(Bool.false_ne_true h).elim⟩
 ·rw[hr,List.append_nil,hs];exact trodAll_mk1 (shut_bool underlying4 _)
 ·rw[List.append_nil,hs]
  exact Mg hrd hA (fun x hx=>hb.same (hlt x hx)) (fun x hx=>by simpa using hlt x hx)
 ·rw[hvars,List.append_nil,hs];rfl
theorem Qy2{x:Int}(h:(Lit.int .u64 x).wf=true):∃ n:Nat,x=n/\n<18446744073709551616:=by
 simp[Lit.wf,IntKind.min,IntKind.max,IntKind.signed,IntKind.bits]at h;exact⟨x.toNat,by omega,by omega⟩
end
end
end Go.Proofs.YtlhchkajjpefmaaGreatDoor
