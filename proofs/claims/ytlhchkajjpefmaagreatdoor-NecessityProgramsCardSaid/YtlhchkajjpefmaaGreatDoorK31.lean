/- Lemmas and walks, part 31: each theorem says what it proves; no condition beside its own. -/
import Derived.Test.YtlhchkajjpefmaaGreatDoorK30
import Derived.ProofKit
import Derived.OpenShut
set_option maxHeartbeats 16000000
set_option maxRecDepth 100000
namespace Go.Proofs.YtlhchkajjpefmaaGreatDoor
open Lib(hid)
open Go.RowKit Go.Proofs.Tryz
section
open Go.Maps
attribute [local go_sem ↓] Go.wp_at_zero Go.wp_at_succ
section
variable{w:World}{v:DV}{own:Nat->Option Qp}{D:Dev}{a:Nat}{t:Value}
theorem Qgl:Calls prog 305 #[.pointer (some ⟨a,0,none⟩),.pointer none] w fun r w'=>r = .returned (.int .i64 1)/\w=w':=by
 go_enter func305,ntmps305
 go_wp2_with fail
 go_ret
 exact⟨rfl,rfl⟩
theorem Qc2{i:Int}(H:Calls prog 76 #[.int .i64 i,t,.int .i64 0] w (StT w)):Calls prog 27 #[.int .i64 i,t] w (StT w):=by
 have HC:=hid H;clear H;unfold StT at *
 go_enter func27,ntmps27
 go_wp2_with fail
 (with_reducible refine HC.out.mono ?_)
 rintro r w1 ⟨rfl,b1⟩;have B1:=hid b1;clear b1;go_wp2_with fail
 go_ret
 exact⟨rfl,B1.out⟩
theorem Qfp{i:Int}(H:Calls prog 76 #[.int .i64 i,t,.int .i64 1] w (StT w)):Calls prog 29 #[.int .i64 i,t] w (StT w):=by
 have HC:=hid H;clear H;unfold StT at *
 go_enter func29,ntmps29
 go_wp2_with fail
 (with_reducible refine HC.out.mono ?_)
 rintro r w1 ⟨rfl,b1⟩;have B1:=hid b1;clear b1;go_wp2_with fail
 go_ret
 exact⟨rfl,B1.out⟩
theorem Q0q(h:IsDev w v own D)(h0:D.dirtyL = []):Calls prog 24 #[.pointer (some ⟨v.db,0,none⟩)] w fun r w'=>∃ sa sc,r = .returned (.slice sa 0 sc)/\Below w.heap.size w w':=by
 refine(At h).mono fun r w' hp => ?_
 rw[h0]at hp;obtain⟨sv,rfl,h2⟩:=hp;obtain⟨sa,sc,rfl⟩:=h2.slice;exact⟨sa,sc,rfl,h2.bel⟩
theorem SCl.dirty{n x:Nat}{C:Nat->Int}(h:SCl D 0 n C x):D.dirtyL = []:=by
 unfold Dev.dirtyL;rw[List.filter_eq_nil_iff];intro l _;rw[h.grp.hst.hist];simp
theorem Qjz(a:Addr)(w:World):(nilAhead 461 160 (.pointer (some a)) "Good").run prog w = .ok (some false) w:=by kernel_rfl
theorem Q0o{n x:Nat}{C:Nat->Int}(h:IsDev w v own D)(hS:SCl D 0 n C x)(hx:x<=1000):Calls prog 30 #[.pointer (some ⟨v.db,0,none⟩),.slice none 0 0] w fun r w'=>∃ (v':DV) (own':Nat->Option Qp),r = .returned (.pointer (some ⟨v'.db,0,none⟩))/\IsDev w' v' own' (Dev.fresh n C)/\(∀ k,own' k≠none->w.heap.size<=k)/\Below w.heap.size w w':=by
 refine(Qmc h hS.vb (.slice none 0 0) [] ⟨rfl,none,0,rfl,Nat.zero_le _,.inl rfl⟩ (by simp) (by simp) (by have:=hS.exec;omega)).mono fun r w' hp => ?_
 obtain⟨ks,v',own',_,rfl,⟨f,hf,hd⟩,h3,h4⟩:=hp;refine⟨v',own',rfl,?_,h3,h4⟩
 rw[hS.grp.on.n]at hd;exact hd.words fun i hi=>by rw[hf i (by rw[hS.grp.on.n];exact hi),hS.img]
end
section
variable{w:World}
theorem Bx(which:Int)(hN:Nib w):Calls prog 6 #[.int .i64 which] w fun r w'=>r = .returned (.bool true)/\Below w.heap.size w w':=by
 obtain⟨t,ht1,ht2,ht3,s,hs1,hs2,hs3⟩:=Q5k which;have HA:=hid (fun(wx:World) (hb:Below w.heap.size w wx)=>Wn (w:=wx) (hN.below hb) (hN.below hb).lt);have HNB:=hid (fun(wx:World) (hb:Below w.heap.size w wx)=>hN.below hb);have HW:=hid (Im (w:=w));have HNW:Hid (∀ wx:World,Calls prog 10 #[.int .i64 64] wx fun r w'=>∃ v own,r = .returned (.tuple #[.pointer (some ⟨v.db,0,none⟩),.int .i64 0])/\IsDev w' v own (Dev.fresh 64 (fun _=>0))/\(∀ k,own k≠none->wx.heap.size<=k)/\Below wx.heap.size wx w'):=hid (fun wx=>Qat (w:=wx) 64 (by omega) (by omega));have HFS:=hid (fun(wx:World)=>Sk (w:=wx));have HS:=hid hs3;have hlt:(s:Int)<6:=by omega
 have h0:(0:Int)<=s:=by omega
 clear hN hs3
 go_enter func6,ntmps6
 go_wp2_with fail
 (with_reducible refine HW.out.mono ?_)
 rintro r w1 ⟨rfl,b1⟩;have B1:=hid b1;clear b1 HW;go_wp2_with fail
 (with_reducible refine(HA.out _ B1.out).mono ?_)
 rintro r w2 ⟨b,ad,rfl,row,hl,b2⟩;obtain⟨sp,q,C,ok,g,g64,okB,E,ep,pg⟩:=(hl 64 (by omega) (by omega)).atP HS.out;have cA:w2.cell? ⟨b,s,none⟩=some (.iface 160 (.pointer (some ⟨ad s,0,none⟩))):=row.cell HS.out;have B2:=hid (B1.out.trans (b2.mono B1.out.size));have EH:=hid E;have PG:=hid pg
 have OC:=hid (E.okC ep);have OC2:=hid (E.okC2 ep);have SD:=hid (E.done ep)
 have HFN:Hid (Kp q=fnL s):=hid E.ev.fn;clear row hl b2 E ep pg HA B1;go_wp2_with fail
 (with_reducible refine(HNW.out _).mono ?_)
 rintro r w3 ⟨v,own,rfl,d3,o3,b3⟩;have HSU:=hid (EH.out.P.setup w3 v own w2.heap.size b3 o3 (Nat.le_refl _) b3.size d3);have B3:=hid b3;have hms:=Gz ⟨ad s,0,none⟩;clear d3 o3 b3 HNW cA;go_wp2_with fail
 (with_reducible refine HSU.out.mono ?_)
 rintro r w4 ⟨rfl,own4,p4⟩;have P4:=hid p4;obtain⟨x1,hx1,hS1⟩:=EH.out.cl;have S1:=hid hS1;have X1:=hid hx1
 have HD4:=hid (Q0q p4.dev hS1.dirty);have BH:=hid (EH.out.behind q.length);have HPR:=hid (fun(wx:World) (v:DV) (own:Nat->Option Qp)=>EH.out.P.prog wx v own);have HGD:=hid (fun(wx:World) (v2:DV) (own2:Nat->Option Qp) (D:Dev) (y:Nat) (F:Nat->Int) (B:Nat) (e:Bool)=>EH.out.P.good wx v2 own2 D y F B e);have hql:=EH.out.P.len;rw[List.take_length]at BH;clear p4 hx1 hS1 HSU EH;obtain⟨D1,hD1⟩:∃ D1,(Dev.fresh 64 (fun _=>0)).run 0 sp=D1:=⟨_,rfl⟩;rw[hD1]at P4 S1 BH HPR PG SD;obtain⟨D2,hD2⟩:∃ D2,D1.run 0 q=D2:=⟨_,rfl⟩;obtain⟨C2,hC2⟩:∃ C2,pgC C q=C2:=⟨_,rfl⟩;rw[hD2]at BH PG SD;rw[hC2]at SD OC2;have HD2:=hid hD2;clear hD1 hD2 hC2;have HNI:=hid (fun(wx:World)=>Qgl (w:=wx) (a:=ad s));go_wp2_with fail
 (with_reducible refine HD4.out.mono ?_)
 rintro r w5 ⟨sa5,sc5,rfl,b5⟩;have P5:=hid (P4.out.next b5);have B5:=hid (B3.out.trans P5.out.bel);clear b5 HD4 P4;go_wp2_with fail
 (with_reducible refine(HNI.out _).mono ?_)
 rintro r w6 ⟨rfl,rfl⟩;clear hms;have hmp:=Kk ⟨ad s,0,none⟩;have hnl:=Wu ⟨ad s,0,none⟩
 have HTH:=hid (fun(wx:World) (hx:IsDev wx v own4 D1)=>Xa hx);have HP:=hid (HPR.out w5 v own4 B5.out P5.out.ab P5.out.dev);clear HNI HPR;go_wp2_with fail
 (with_reducible refine(HTH.out _ P5.out.dev).mono ?_)
 rintro r w6 ⟨rfl,rfl⟩;go_wp2_with fail
 (with_reducible refine HP.out.mono ?_)
 rintro r w7 ⟨sv,rfl,a7⟩;obtain⟨sa,sc,hsv⟩:=a7.slice;subst hsv;have A7:=hid a7;have P7:=hid (P5.out.next a7.bel);have NW:Hid (∀ k,(Value.slice sa q.length sc).ownBlock=some k->own4 k=none):=hid (fun k hk=>by
  have h1:=A7.out.new k hk
  cases ho:own4 k with
  | none=>rfl
  | some ro=>
   have h2:=P5.out.dev.lt k (by rw[ho];simp);omega)
 have HPG1:=hid (PG.out.prog w7 v own4 (HNB.out _ (B2.out.trans ((B3.out.trans P7.out.bel).mono B2.out.size))) P7.out.dev);clear a7 HP HTH hmp hnl;go_wp2_with fail
 (with_reducible refine HPG1.out.mono ?_)
 rintro r w8 ⟨sv2,rfl,a8⟩;obtain⟨ta,tc,hsv2⟩:=a8.slice;subst hsv2;have P8:=hid (P7.out.next a8.bel);have R1:=hid (A7.out.rd.below a8.bel);have R2:=hid a8.rd;have HF8:=hid (Ng (w:=w8) _ q R1.out (by omega));rw[HFN.out]at HF8;clear a8 A7 HPG1;obtain⟨m,hm⟩:∃ m,q.length=m:=⟨_,rfl⟩;have HM:=hid hm;rw[hm]at R1 R2 HF8 NW hql ⊢;obtain⟨fn,hfn⟩:∃ fn,fnL s=fn:=⟨_,rfl⟩;have HFL:=hid hfn;rw[hfn]at HF8;clear hm hfn HFN;go_wp2_with fail
 (with_reducible refine HF8.out.mono ?_)
 rintro r w9 ⟨rfl,b9⟩;have P9:=hid (P8.out.next b9);have R19:=hid (R1.out.below b9);have R29:=hid (R2.out.below b9)
 clear b9 HF8 R1 R2;go_wp2_with fail
 (with_reducible refine(HFS.out _).mono ?_)
 rintro r w10 ⟨fb,rfl,rowf,b10⟩;have P10:=hid (P9.out.next b10);have R110:=hid (R19.out.below b10);have R210:=hid (R29.out.below b10)
 have cF:=Ix rowf HS.out HFL.out;clear b10 rowf R19 R29 HFS;obtain⟨_,_,_,e1,hca,ha⟩:=R110.out;obtain⟨_,_,_,e2,hcb,hb⟩:=R210.out
 cases e1;cases e2
 have HX:=hid ha;have HY:=hid hb;clear ha hb
 go_wp2_with fail
 go_loopw [85] (fun i wr=>∃ k:Nat,k<=m/\i = .int .i64 k/\Qt w10 wr) (fun i _=>m-(intOf i).toNat)
 case atStart=>exact⟨0,by omega,rfl,Qt.refl w10⟩
 case round=>
  obtain⟨k,hk,rfl,qt⟩:=hrel;obtain⟨nq,rfl⟩:=qt
  by_cases hkm:k<m
  ·obtain⟨e,he⟩:∃ e,q[k]? = some e:=⟨_,List.getElem?_eq_getElem (by rw[HM.out];exact hkm)⟩
   have hg:=Yf q k e he;obtain⟨g1,o1,rfl,hc1⟩:=Zr HX.out hg.1;obtain⟨g2,o2,rfl,hc2⟩:=Zr HY.out hg.1;have c1:=hc1 _ _ hg.1;have c2:=hc1 _ _ hg.2.1;have c3:=hc1 _ _ hg.2.2
   have d1:=hc2 _ _ hg.1;have d2:=hc2 _ _ hg.2.1;have d3:=hc2 _ _ hg.2.2
   rw[<- Nat.add_assoc]at c2 d2 c3 d3;have hk':(k:Int)<m:=by omega
   clear hc1 hc2 he hg;obtain⟨e1,e2,e3⟩:=e;simp only at c1 c2 c3 d1 d2 d3;have q1:((e1:Int)==(e1:Int))=true:=by simp
   have q2:((e2:Int)==(e2:Int))=true:=by simp
   have q3:(e3==e3)=true:=by simp
   go_wp2_with fail
   go_quiet (fail)
   go_wp2_with fail
   go_roundw
   case rel=>exact⟨k+1,by omega,by go_num,⟨_,rfl⟩⟩
   case measure=>simp[intOf];omega
  ·have BQ:=(Qt.drewN w10 nq).below
   have P11:=hid (P10.out.next BQ);have R11:=hid (R110.out.below BQ);have e0:=P11.out.size
   generalize w10.drewN nq=w11 at *
   have HBF:=hid (Qc2 (PG.out.st0 w11.drew v own4 (HNB.out _ (B2.out.trans ((B3.out.trans P11.out.drew.bel).mono B2.out.size))) P11.out.drew.dev));have HCP:=hid (fun(wx:World) (h:IsDev wx v own4 D1)=>Qry h (by have:=S1.out.exec;have:=X1.out;omega));have HGC:=hid (fun(wx:World) (wc:World) (v2:DV) (own2:Nat->Option Qp) (e:Bool) (hb:Below w2.heap.size w2 wx) (d:IsDev wx v2 own2 D1) (o:∀ k,own2 k≠none->wc.heap.size<=k) (h1:w2.heap.size<=wc.heap.size) (h2:wc.heap.size<=wx.heap.size)=>HGD.out wx v2 own2 D1 x1 C wc.heap.size e hb OC.out.1 S1.out (by have:=X1.out;omega) d o h1 h2);have hmg:=Wr ⟨ad s,0,none⟩;have hng:=Qjz ⟨ad s,0,none⟩
   clear HX HY R110 R210 cF P10 BQ;go_wp2_with fail
   refine wp_region_held (S:=(fun _=>True)) (by kernel_rfl) ?_
   change wpAnyH _ _ _ _ _ _ _ _ (World.drew _)
   refine tkH 0 (.int .i64 s) rfl (fun w _=>by go_simp) trivial ?_
   refine tkH 1 (.pointer (some ⟨v.tb 0,0,none⟩)) rfl (fun w _=>by go_simp) trivial ?_
   refine tkH 2 ((.iface 40 (.pointer (some ⟨v.tb 0,0,none⟩)))) rfl (fun w _=>by go_simp) trivial ?_
   refine onH 3 rfl (fun K hK => ?_);go_simp
   (with_reducible refine HBF.out.mono ?_)
   rintro e w12 ⟨rfl,b12⟩;have P12:=hid (P11.out.drew.next b12);have R12:=hid (R11.out.drew.below b12);clear b12
   go_simp;refine hK _ _ ⟨trivial,?_⟩;clear hK K
   refine onH 4 rfl (fun K hK => ?_);go_simp;refine hK _ _ ⟨trivial,?_⟩;clear hK K
   refine onH 5 rfl (fun K hK => ?_);go_simp;refine hK _ _ ⟨trivial,?_⟩;clear hK K
   refine tkH 6 ((.iface 160 (.pointer (some ⟨ad s,0,none⟩)))) rfl (fun w _=>by go_simp) trivial ?_
   refine tkH 7 (.pointer (some ⟨v.db,0,none⟩)) rfl (fun w _=>by go_simp) trivial ?_
   refine tkH 9 (.func (.method "Good") #[(.iface 160 (.pointer (some ⟨ad s,0,none⟩)))] #[]) rfl (fun w _=>by go_simp) trivial ?_
   refine tkH 10 (.func (.method "Good") #[(.iface 160 (.pointer (some ⟨ad s,0,none⟩)))] #[]) rfl (fun w _=>by go_simp) trivial ?_
   refine tkH 11 ((.iface 160 (.pointer (some ⟨ad s,0,none⟩)))) rfl (fun w _=>by go_simp) trivial ?_
   refine onH 8 rfl (fun K hK => ?_);go_simp
   (with_reducible refine(HCP.out _ P12.out.dev).mono ?_)
   rintro e w13 ⟨v13,own13,rfl,_,d13,o13,b13⟩;have P13:=hid (P12.out.next b13);have HG13:=hid (HGC.out w13 w12 v13 own13 false (B3.out.trans P13.out.bel) d13 o13 P12.out.size b13.size);rw[OC.out.2.1]at HG13;have T13:=hid b13;clear d13 o13 b13
   go_simp;refine hK _ _ ⟨trivial,?_⟩;clear hK K
   refine onH 12 rfl (fun K hK => ?_);go_simp
   (with_reducible refine HG13.out.mono ?_)
   rintro e w14 ⟨rfl,b14⟩;have P14:=hid (P12.out.next (T13.out.trans b14));have R14:=hid (R12.out.below (T13.out.trans b14));clear b14 T13 HG13 P13
   go_simp;refine hK _ _ ⟨trivial,?_⟩;clear hK K
   refine onH 13 rfl (fun K hK => ?_);go_simp;refine hK _ _ ⟨trivial,?_⟩;clear hK K
   refine onH 14 rfl (fun K hK => ?_);go_simp;refine hK _ _ ⟨trivial,?_⟩;clear hK K
   refine onH 15 rfl (fun K hK => ?_);go_simp;refine hK _ _ ⟨trivial,?_⟩;clear hK K
   refine tkH 16 ((.iface 160 (.pointer (some ⟨ad s,0,none⟩)))) rfl (fun w _=>by go_simp) trivial ?_
   refine tkH 17 (.pointer (some ⟨v.db,0,none⟩)) rfl (fun w _=>by go_simp) trivial ?_
   refine tkH 19 (.func (.method "Good") #[(.iface 160 (.pointer (some ⟨ad s,0,none⟩)))] #[]) rfl (fun w _=>by go_simp) trivial ?_
   refine tkH 20 (.func (.method "Good") #[(.iface 160 (.pointer (some ⟨ad s,0,none⟩)))] #[]) rfl (fun w _=>by go_simp) trivial ?_
   refine tkH 21 ((.iface 160 (.pointer (some ⟨ad s,0,none⟩)))) rfl (fun w _=>by go_simp) trivial ?_
   refine onH 18 rfl (fun K hK => ?_);go_simp
   (with_reducible refine(HCP.out _ P14.out.dev).mono ?_)
   rintro e w15 ⟨v15,own15,rfl,_,d15,o15,b15⟩;have P15:=hid (P14.out.next b15);have HG15:=hid (HGC.out w15 w14 v15 own15 true (B3.out.trans P15.out.bel) d15 o15 P14.out.size b15.size);rw[OC.out.2.2]at HG15;have T15:=hid b15;clear d15 o15 b15
   go_simp;refine hK _ _ ⟨trivial,?_⟩;clear hK K
   refine onH 22 rfl (fun K hK => ?_);go_simp
   (with_reducible refine HG15.out.mono ?_)
   rintro e w16 ⟨rfl,b16⟩;have P16:=hid (P14.out.next (T15.out.trans b16));have R16:=hid (R14.out.below (T15.out.trans b16));clear b16 T15 HG15 P15
   go_simp;refine hK _ _ ⟨trivial,?_⟩;clear hK K
   refine onH 23 rfl (fun K hK => ?_);go_simp;refine hK _ _ ⟨trivial,?_⟩;clear hK K
   refine wpAnyH_done (by kernel_rfl) ?_ _
   have HRUN:=hid (Km (w:=w16) (v:=v) (own:=own4) (D:=D1) (j:=0) P16.out.dev (by omega) (.slice sa m sc) q (by rw[HM.out];exact R16.out) NW.out BH.out.2.2.2.2.2.1 (by rw[HM.out];omega) (by have:=BH.out.2.2.2.2.1;rw[HM.out];omega));rw[HD2.out,BH.out.2.2.2.1]at HRUN;clear HCP HGC P12 P14 HBF;go_wp2_with fail
   (with_reducible refine HRUN.out.mono ?_)
   rintro r w17 ⟨rfl,hp⟩;obtain⟨own17,p17⟩:=P16.out.post hp;have P17:=hid p17;have HAF:=hid (Qfp (PG.out.st1 w17 v own17 (HNB.out _ (B2.out.trans ((B3.out.trans P17.out.bel).mono B2.out.size))) P17.out.dev));clear hp p17 HRUN;go_wp2_with fail
   (with_reducible refine HAF.out.mono ?_)
   rintro r w18 ⟨rfl,b18⟩;have P18:=hid (P17.out.next b18);have HCR:=hid (fun(wx:World) (h:IsDev wx v own17 D2)=>Q0o h SD.out (Nat.le_refl _));have HGC:=hid (fun(wx:World) (wc:World) (v2:DV) (own2:Nat->Option Qp) (e:Bool) (hb:Below w2.heap.size w2 wx) (d:IsDev wx v2 own2 (Dev.fresh 64 C2)) (o:∀ k,own2 k≠none->wc.heap.size<=k) (h1:w2.heap.size<=wc.heap.size) (h2:wc.heap.size<=wx.heap.size)=>HGD.out wx v2 own2 (Dev.fresh 64 C2) 0 C2 wc.heap.size e hb OC2.out.1 (Xz (fun i=>SD.out.bd i) 0 64) (by omega) d o h1 h2);clear b18 HAF;go_wp2_with fail
   refine wp_region_held (S:=(fun _=>True)) (by kernel_rfl) ?_
   change wpAnyH _ _ _ _ _ _ _ _ (World.drew _)
   refine tkH 0 ((.iface 160 (.pointer (some ⟨ad s,0,none⟩)))) rfl (fun w _=>by go_simp) trivial ?_
   refine tkH 1 (.pointer (some ⟨v.db,0,none⟩)) rfl (fun w _=>by go_simp) trivial ?_
   refine tkH 3 (.func (.method "Good") #[(.iface 160 (.pointer (some ⟨ad s,0,none⟩)))] #[]) rfl (fun w _=>by go_simp) trivial ?_
   refine tkH 4 (.func (.method "Good") #[(.iface 160 (.pointer (some ⟨ad s,0,none⟩)))] #[]) rfl (fun w _=>by go_simp) trivial ?_
   refine tkH 5 ((.iface 160 (.pointer (some ⟨ad s,0,none⟩)))) rfl (fun w _=>by go_simp) trivial ?_
   refine onH 2 rfl (fun K hK => ?_);go_simp
   (with_reducible refine(HCR.out _ P18.out.drew.dev).mono ?_)
   rintro e w19 ⟨v19,own19,rfl,d19,o19,b19⟩;have P19:=hid (P18.out.drew.next b19);have HG19:=hid (HGC.out w19 w18.drew v19 own19 true (B3.out.trans P19.out.bel) d19 o19 P18.out.drew.size b19.size);rw[OC2.out.2.2]at HG19;have T19:=hid b19;clear d19 o19 b19
   go_simp;refine hK _ _ ⟨trivial,?_⟩;clear hK K
   refine onH 6 rfl (fun K hK => ?_);go_simp
   (with_reducible refine HG19.out.mono ?_)
   rintro e w20 ⟨rfl,b20⟩;have P20:=hid (P18.out.drew.next (T19.out.trans b20));clear b20 T19 HG19 P19
   go_simp;refine hK _ _ ⟨trivial,?_⟩;clear hK K
   refine onH 7 rfl (fun K hK => ?_);go_simp;refine hK _ _ ⟨trivial,?_⟩;clear hK K
   refine tkH 8 ((.iface 160 (.pointer (some ⟨ad s,0,none⟩)))) rfl (fun w _=>by go_simp) trivial ?_
   refine tkH 9 (.pointer (some ⟨v.db,0,none⟩)) rfl (fun w _=>by go_simp) trivial ?_
   refine tkH 11 (.func (.method "Good") #[(.iface 160 (.pointer (some ⟨ad s,0,none⟩)))] #[]) rfl (fun w _=>by go_simp) trivial ?_
   refine tkH 12 (.func (.method "Good") #[(.iface 160 (.pointer (some ⟨ad s,0,none⟩)))] #[]) rfl (fun w _=>by go_simp) trivial ?_
   refine tkH 13 ((.iface 160 (.pointer (some ⟨ad s,0,none⟩)))) rfl (fun w _=>by go_simp) trivial ?_
   refine onH 10 rfl (fun K hK => ?_);go_simp
   (with_reducible refine(HCR.out _ P20.out.dev).mono ?_)
   rintro e w21 ⟨v21,own21,rfl,d21,o21,b21⟩;have P21:=hid (P20.out.next b21);have HG21:=hid (HGC.out w21 w20 v21 own21 false (B3.out.trans P21.out.bel) d21 o21 P20.out.size b21.size);rw[OC2.out.2.1]at HG21;have T21:=hid b21;clear d21 o21 b21
   go_simp;refine hK _ _ ⟨trivial,?_⟩;clear hK K
   refine onH 14 rfl (fun K hK => ?_);go_simp
   (with_reducible refine HG21.out.mono ?_)
   rintro e w22 ⟨rfl,b22⟩;have P22:=hid (P20.out.next (T21.out.trans b22));clear b22 T21 HG21 P21
   go_simp;refine hK _ _ ⟨trivial,?_⟩;clear hK K
   refine onH 15 rfl (fun K hK => ?_);go_simp;refine hK _ _ ⟨trivial,?_⟩;clear hK K
   refine onH 16 rfl (fun K hK => ?_);go_simp;refine hK _ _ ⟨trivial,?_⟩;clear hK K
   refine wpAnyH_done (by kernel_rfl) ?_ _
   have HB:=hid (B2.out.trans ((B3.out.trans P22.out.bel).mono B2.out.size));go_wp2_with fail
   go_ret
   exact⟨rfl,HB.out⟩
end
end

section
open Go.ChangeShapes Go.WideShapes Go.ChangeAt Go.RowKit
theorem Af:ownKnob Tryz.prog.godebug=none:=by kernel_rfl
theorem Qnt:laidOutB prog=true:=by kernel_rfl
section
variable{H:Type}{enc:TypeId×Value->H}
theorem Mg{W W':World}{sp':Nat->Bool}:∀ {ts:List TypeId} {vs:List Value} {ds:List (DataW H)} {ps:List MemPlace},(∀ t∈ts,Tryz.prog.readableRec t=true/\t<Tryz.prog.types.size) ->
  DataW.TrodAll enc prog W 0 (fun _=>true) true ts vs ds ps->(∀ p∈ps,W.sameAt W' p)->(∀ p∈ps,sp' p.block=true)->DataW.TrodAll enc prog W' 0 sp' true ts vs ds ps
 | [],[],[],_,_,h,_,_=>h
 | t::_,_::_,_::_,_,hT,⟨p,q,h1,h2,e⟩,hw,hs=>
  ⟨p,q,WideElems.Trod_stays Qnt (hT t (List.mem_cons.2 (.inl rfl))).1 (hT t (List.mem_cons.2 (.inl rfl))).2 h1 (fun x hx=>hw x (by rw[e];exact List.mem_append_left _ hx)) (fun x hx=>hs x (by rw[e];exact List.mem_append_left _ hx)),
   Mg (fun t ht=>hT t (List.mem_cons.2 (.inr ht))) h2 (fun x hx=>hw x (by rw[e];exact List.mem_append_right _ hx)) (fun x hx=>hs x (by rw[e];exact List.mem_append_right _ hx)),e⟩
theorem Ab{f:Func}{s:ChangeSpec}{W W':World}{args:Array Value}{ds gs:List (DataW H)}{before:List MemPlace}
  (hW:DataW.Whole enc prog f.params.toList s.vars false W args.toList ds gs before) (hvars:s.vars = []) (hr:f.resultTypes = #[4])
  (hs:s.fn H ds={results := [.lit (.bool true)],args:=ds}) (hrd:∀ t∈f.params.toList,Tryz.prog.readableRec t=true/\t<Tryz.prog.types.size) (hb:Below W.heap.size W W') :
  s.post enc prog f false true false false W args (.bool true) W':=by
 have hlt:∀ p∈before,p.block<W.heap.size:=fun p hp=>hW.lt p hp
 have hW':=hW;obtain⟨p,q,hA,hV,rfl,_,_⟩:=hW;rw[hvars]at hV;obtain⟨rfl,rfl⟩:=trodVars_none hV;simp only[List.append_nil]at hlt hW';refine⟨ds,[],p,[],p,[],hW',?_,?_,?_,World.keptBut_mono (fun x hx=>⟨hx,.inr (.inl hx)⟩) (hb.frame (· ∈ p)),fun h=>(Bool.false_ne_true h).elim⟩
 ·rw[hr,List.append_nil,hs];exact trodAll_mk1 (shut_bool underlying4 _)
 ·rw[List.append_nil,hs]
  exact Mg hrd hA (fun x hx=>hb.same (hlt x hx)) (fun x hx=>by simpa using hlt x hx)
 ·rw[hvars,List.append_nil,hs];rfl
end
end
end Go.Proofs.YtlhchkajjpefmaaGreatDoor
