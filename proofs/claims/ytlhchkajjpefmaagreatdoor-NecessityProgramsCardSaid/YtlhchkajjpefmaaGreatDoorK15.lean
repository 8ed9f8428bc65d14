/- Lemmas and walks, part 15: each theorem says what it proves; no condition beside its own. -/
import Derived.Test.YtlhchkajjpefmaaGreatDoorK14
import Derived.RangeFuncNested
import Derived.RangeFuncBound
import Derived.OwnWalkIn
import Derived.TacticsInMore
import Derived.LoopNIn
import Derived.LoopIn
set_option maxHeartbeats 16000000
set_option maxRecDepth 100000
namespace Go.Proofs.YtlhchkajjpefmaaGreatDoor
open Lib(hid)
open Go.RowKit Go.Proofs.Tryz
section
section
variable{w:World}{v:DV}{own:Nat->Option Qp}{D:Dev}{off:Nat}
theorem Acc.mid{w wm _wz wy:World}{e:TypeId}{s n:Nat}{u:Value}{xs:List Value}(hb:Below w.heap.size w wm)(h:Acc wm wm.heap.size wy e s u n xs):Acc w w.heap.size wy e s u n xs:=
 ⟨h.own,fun g hg=>Nat.le_trans hb.size (h.new g hg),hb.trans (h.bel.mono hb.size),Nat.le_trans hb.size h.lt⟩
theorem Qez(o:Nat)(x:Int)(ho:o<18446744073709551616):Calls prog 163 #[.slice none 0 0,.int .u64 o,.int .u64 x] w fun r w'=>∃ v',r = .returned v'/\Acc w w.heap.size w' 73 3 v' (Qe [(o,x)]).length (Qd (Qe [(o,x)])):=
 Vi (.slice none 0 0) [] o x ho (Acc.nil w _ w _ _ (Below.refl _ _) (Nat.le_refl _)) (by simp)
theorem Qa0(h:IsDev w v own D)(hb:BOk D off)(k:Nat)(hk:k<18446744073709551616)(x:Int)(s:Nat)(hs:s<7)(hf:Qhc D.cur off k=(s:Nat)) :
  Calls prog 72 #[.agg #[.iface 40 (.pointer (some ⟨v.tb 0,0,none⟩)),.int .u64 off],.int .u64 k,.int .u64 x] w (Ij w (Qes off s x) 0):=by
 have HF:=hid (fun wx (hx:IsDev wx v own D)=>hf ▸ hb.find hx k hk);have hl:=hb.hl;have hn:=h.wf.le
 have HK:=hid (fun(wx:World)=>Vm (w:=wx) (v:=v) off s hs (by omega));have hkb:Qg off s+8<18446744073709551616:=by unfold Qg;omega
 have hkw:IntKind.u64.wrap ((Qg off s:Nat)+8:Int)=(Qg off s:Nat)+8:=IntWalk.u64_in _ (by omega);have hcm:=fun wx=>Qez (w:=wx) (Qg off s+8) x hkb
 rw[show((Qg off s+8:Nat):Int)=(Qg off s:Nat)+8 by omega]at hcm;have HCM:=hid hcm;have H:=hid h;have X0:=hid (Bx1.start w #[.iface 40 (.pointer (some ⟨v.tb 0,0,none⟩)),.int .u64 off] 147);unfold Qes
 generalize bkH D.cur off=hd at *
 generalize Qg off s=bk at *
 clear h hf hcm
 go_enter func72,ntmps72
 go_wp2_with fail
 (with_reducible refine(HF.out _ (H.out.below X0.out.bel)).mono ?_)
 rintro e w1 ⟨rfl,b1⟩;have X1:=hid (X0.out.next b1);clear b1;have c0:=X1.out.blk.cell (i:=0) (v:=.iface 40 (.pointer (some ⟨v.tb 0,0,none⟩))) rfl;have c1:=X1.out.blk.cell (i:=1) (v:=.int .u64 off) rfl;go_wp2_with fail
 (with_reducible refine(HK.out _).mono ?_)
 rintro e w2 ⟨rfl,b2⟩;have X2:=hid (X1.out.next b2);clear b2 c0 c1 X1;go_wp2_with fail
 (with_reducible refine(HCM.out _).mono ?_)
 rintro e w3 ⟨pv,rfl,ha⟩;have A:=hid (Acc.mid (_wz:=w2) X2.out.bel ha);clear ha;go_wp2_with fail
 go_ret2
 exact⟨_,rfl,A.out⟩
theorem BOk.used(hb:BOk D off)(s:Nat)(hs:s<7):Calls prog 165 #[.int .u64 (bkH D.cur off:Nat),.int .i64 s] w fun r w'=>r = .returned (.bool (Xf (bkH D.cur off) s))/\w=w':=Qh9 _ s hb.bd hs
theorem Dj(h:IsDev w v own D)(hb:BOk D off)(k:Nat)(hk:k<18446744073709551616)(x:Int)(hf:Qhc D.cur off k = -1)(hu:∀ t,t<7->Xf (bkH D.cur off) t=true) :
  Calls prog 72 #[.agg #[.iface 40 (.pointer (some ⟨v.tb 0,0,none⟩)),.int .u64 off],.int .u64 k,.int .u64 x] w (Ij w [] 4):=by
 have HF:=hid (fun wx (hx:IsDev wx v own D)=>hf ▸ hb.find hx k hk);have HU:=hid (fun wx t (ht:t<7)=>hu t ht ▸ hb.used (w:=wx) t ht);have H:=hid h;have X0:=hid (Bx1.start w #[.iface 40 (.pointer (some ⟨v.tb 0,0,none⟩)),.int .u64 off] 147)
 generalize bkH D.cur off=hd at *
 clear h hf hu
 go_enter func72,ntmps72
 go_wp2_with fail
 (with_reducible refine(HF.out _ (H.out.below X0.out.bel)).mono ?_)
 rintro e w1 ⟨rfl,b1⟩;have X1:=hid (X0.out.next b1);clear b1;go_wp2_with fail
 go_loop [9] (fun y=>∃ t:Nat,t<=7/\y = .int .i64 t) (fun y=>7-(intOf y).toNat)
 case atStart=>exact⟨0,by omega,rfl⟩
 case round=>
  obtain⟨t,ht,rfl⟩:=hrel
  by_cases hlt:t<7
  ·have h1:(t:Int)<7:=by omega
   have HUT:=hid (fun wx=>HU.out wx t hlt);clear HU;go_wp2_with fail
   (with_reducible refine(HUT.out _).mono ?_)
   rintro e w2 ⟨rfl,rfl⟩;go_wp2_with fail
   go_round
   case rel=>exact⟨t+1,by omega,by go_num⟩
   case measure=>simp[intOf];omega
  ·obtain rfl:t=7:=by omega
   go_wp2_with fail
   go_ret2
   exact⟨_,rfl,Acc.nil _ _ _ _ _ X1.out.bel X1.out.bel.size⟩
theorem Qa2(wx:World)(l:List (Nat×Nat×Int))(hl:l.length<=1000)(n:Nat)(hn:n=l.length):Acc wx wx.heap.size (wx.alloc (.cells (Qd l).toArray 73)) 73 3 (.slice (some ⟨wx.heap.size,0,none⟩) n n) n (Qd l):=by
 subst hn;have h:=Qj.new wx (Qd l).toArray 73 3 l.length l.length (by simp[Xv]) (Nat.le_refl _) (by unfold maxLen;omega);rw[List.take_of_length_le (by simp[Xv])]at h;exact⟨h,fun g hg=>by simp[Value.ownBlock]at hg;omega,Qa _ _,by simp⟩
theorem Dk(h:IsDev w v own D)(hb:BOk D off)(k:Nat)(hk:k<18446744073709551616)(x:Int)(hf:Qhc D.cur off k = -1)(s:Nat)(hs:s<7)(hu:∀ t,t<s->Xf (bkH D.cur off) t=true)(hn:Xf (bkH D.cur off) s=false)
  (q0 q1 q2:Nat) (hq0:64*(off/64)=q0) (hq1:64*(Qg off s/64)=q1) (hq2:64*((Qg off s+8)/64)=q2) (hc:q1≠q0/\q2≠q0/\q2≠q1) :
  Calls prog 72 #[.agg #[.iface 40 (.pointer (some ⟨v.tb 0,0,none⟩)),.int .u64 off],.int .u64 k,.int .u64 x] w (Ij w (Ud off s k x (Yy (bkH D.cur off) s k)) 0):=by
 obtain⟨i0,hi0,hz0,hz1,hz2⟩:=info_parts Xs;have I:=hid (And.intro hi0 (And.intro hz0 (And.intro hz1 hz2)));clear hi0 hz0 hz1 hz2
 have HF:=hid (fun wx (hx:IsDev wx v own D)=>hf ▸ hb.find hx k hk);have hl:=hb.hl;have hln:=h.wf.le
 have HU:=hid (fun wx t (ht:t<s)=>hu t ht ▸ hb.used (w:=wx) t (by omega));have HN:=hid (fun wx=>hn ▸ hb.used (w:=wx) s hs);have HK:=hid (fun(wx:World)=>Vm (w:=wx) (v:=v) off s hs (by omega));have hkb:Qg off s+8<18446744073709551616:=by unfold Qg;omega
 have hkw:IntKind.u64.wrap ((Qg off s:Nat)+8:Int)=(Qg off s:Nat)+8:=IntWalk.u64_in _ (by omega);have HL0:=hid (fun wx=>hq0 ▸ Zo (w:=wx) off (by omega));have HL1:=hid (fun wx=>hq1 ▸ Zo (w:=wx) (Qg off s) (by omega));have hl2:=fun wx=>hq2 ▸ Zo (w:=wx) (Qg off s+8) hkb
 rw[show((Qg off s+8:Nat):Int)=(Qg off s:Nat)+8 by omega]at hl2;have HL2:=hid hl2;have HMK:=hid (fun wx=>Fu (w:=wx) (bkH D.cur off) s k hb.bd hs hk);have HCM:=hid (fun wx w0 pv l hl hp=>Vi (w:=wx) (w0:=w0) pv l off ((Yy (bkH D.cur off) s k:Nat):Int) (by omega) hp hl);have HE:Hid (Ud off s k x (Yy (bkH D.cur off) s k) = [(1,Qg off s,(k:Int)),(1,Qg off s+8,x),(2,q1,0),(2,q2,0),(3,0,0)]++Qe [(off,((Yy (bkH D.cur off) s k:Nat):Int))]):=by
  show Ud _ _ _ _ _=_
  rw[Fr,stores1];have E:=(show ¬ Qg off s/64=off/64/\¬ (Qg off s+8)/64=off/64/\¬ (Qg off s+8)/64=Qg off s/64 from by omega);simp[E,hq0,hq1,hq2]
 rw[HE.out];clear HE;have H:=hid h;have X0:=hid (Bx1.start w #[.iface 40 (.pointer (some ⟨v.tb 0,0,none⟩)),.int .u64 off] 147)
 generalize Yy (bkH D.cur off) s k=mk at *
 generalize bkH D.cur off=hd at *
 generalize Qg off s=bk at *
 have hi0:((q1:Int) != (q0:Int))=true:=by simp;omega
 have hi1:((q2:Int) != (q0:Int))=true:=by simp;omega
 have hi2:((q2:Int) != (q1:Int))=true:=by simp;omega
 clear h hf hu hn hl2 hq0 hq1 hq2 hc
 go_enter func72,ntmps72
 go_wp2_with fail
 (with_reducible refine(HF.out _ (H.out.below X0.out.bel)).mono ?_)
 rintro e w1 ⟨rfl,b1⟩;have X1:=hid (X0.out.next b1);clear b1;go_wp2_with fail
 go_loop [9] (fun y=>∃ t:Nat,t<=s/\y = .int .i64 t) (fun y=>s-(intOf y).toNat)
 case atStart=>exact⟨0,by omega,rfl⟩
 case round=>
  obtain⟨t,ht,rfl⟩:=hrel;have h1:(t:Int)<7:=by omega
  by_cases hlt:t<s
  ·have HUT:=hid (fun wx=>HU.out wx t hlt)
   clear HU;go_wp2_with fail
   (with_reducible refine(HUT.out _).mono ?_)
   rintro e w2 ⟨rfl,rfl⟩;go_wp2_with fail
   go_round
   case rel=>exact⟨t+1,by omega,by go_num⟩
   case measure=>simp[intOf];omega
  obtain rfl:t=s:=by omega
  clear HU ht hlt;go_wp2_with fail
  (with_reducible refine(HN.out _).mono ?_)
  rintro e w2 ⟨rfl,rfl⟩;have c0:=X1.out.blk.cell (i:=0) (v:=.iface 40 (.pointer (some ⟨v.tb 0,0,none⟩))) rfl;have c1:=X1.out.blk.cell (i:=1) (v:=.int .u64 off) rfl;go_wp2_with fail
  (with_reducible refine(HK.out _).mono ?_)
  rintro e w3 ⟨rfl,b3⟩;have X3:=hid (X1.out.next b3);clear b3 c0 c1 X1;have A0:Hid (Acc w3 w3.heap.size (w3.alloc (.cells #[.int .u8 1,.int .u64 bk,.int .u64 k,.int .u8 1,.int .u64 ((bk:Int)+8),.int .u64 x] 73)) 73 3 (.slice (some ⟨w3.heap.size,0,none⟩) 2 2) 2 (Qd [(1,bk,(k:Int)),(1,bk+8,x)])):=Qa2 w3 [(1,bk,(k:Int)),(1,bk+8,x)] (by simp) 2 rfl;have X4:=hid (X3.out.next (Qa w3 (.cells #[.int .u8 1,.int .u64 bk,.int .u64 k,.int .u8 1,.int .u64 ((bk:Int)+8),.int .u64 x] 73)));have c1:=X4.out.blk.cell (i:=1) (v:=.int .u64 off) rfl;go_wp2_with fail
  generalize w3.alloc (.cells #[.int .u8 1,.int .u64 bk,.int .u64 k,.int .u8 1,.int .u64 ((bk:Int)+8),.int .u64 x] 73)=w4 at *
  (with_reducible refine(HL0.out _).mono ?_)
  rintro e w5 ⟨rfl,rfl⟩;go_wp2_with fail
  (with_reducible refine(HL1.out _).mono ?_)
  rintro e w5 ⟨rfl,rfl⟩;go_wp2_with fail
  (with_reducible refine(HL2.out _).mono ?_)
  rintro e w5 ⟨rfl,rfl⟩;go_wp2_with (at_builtin;refine Qc _ rfl _ _ 37 rfl 73 i0 _ 3 24 underlying37 I.out.1 I.out.2.1 I.out.2.2.1 I.out.2.2.2 rfl (by decide) _ _ _ rfl (by exact(A0.out.own.alloc _)) _ 1 (Qd [(2,q1,0)]) rfl (by exact Ql.newAt _ _ _ 3 1 _ rfl rfl) (Zn _) (by unfold maxLen;omega) (by omega) ?_)
  intro v1 w11 o1 g1 b1 n1;obtain⟨va1,vc1,hv1⟩:=o1.slice;subst hv1;have A1:=hid (A0.out.next (m:=1) (Qa _ _) o1 g1 b1 (by simp));have X5:=hid (X3.out.next A1.out.bel);clear o1 g1 b1 n1;go_wp2_with (at_builtin;refine Qc _ rfl _ _ 37 rfl 73 i0 _ 3 24 underlying37 I.out.1 I.out.2.1 I.out.2.2.1 I.out.2.2.2 rfl (by decide) _ _ _ rfl (by exact(A1.out.own.alloc _)) _ 1 (Qd [(2,q2,0)]) rfl (by exact Ql.newAt _ _ _ 3 1 _ rfl rfl) (Zn _) (by unfold maxLen;omega) (by omega) ?_)
  intro v2 w12 o1 g1 b1 n1;obtain⟨va2,vc2,hv2⟩:=o1.slice;subst hv2;have A2:=hid (A1.out.next (m:=1) (Qa _ _) o1 g1 b1 (by simp));have X6:=hid (X3.out.next A2.out.bel);clear o1 g1 b1 n1;go_wp2_with (at_builtin;refine Qc _ rfl _ _ 37 rfl 73 i0 _ 3 24 underlying37 I.out.1 I.out.2.1 I.out.2.2.1 I.out.2.2.2 rfl (by decide) _ _ _ rfl (by exact(A2.out.own.alloc _)) _ 1 (Qd [(3,0,0)]) rfl (by exact Ql.newAt _ _ _ 3 1 _ rfl rfl) (Zn _) (by unfold maxLen;omega) (by omega) ?_)
  intro v3 w13 o1 g1 b1 n1;obtain⟨va3,vc3,hv3⟩:=o1.slice;subst hv3;have A3:=hid (A2.out.next (m:=1) (Qa _ _) o1 g1 b1 (by simp));have X7:=hid (X3.out.next A3.out.bel);clear o1 g1 b1 n1;go_wp2_with fail
  have X9:=hid (X7.out.next ((Below.refl _ _).drew));have A9:Hid (Acc w3 w3.heap.size w13.drew 73 3 (.slice va3 5 vc3) 5 (Qd [(1,bk,(k:Int)),(1,bk+8,x),(2,q1,0),(2,q2,0),(3,0,0)])):=A3.out.drew;clear X7 A3;refine wp_region_held (S:=(fun wx=>Bx1 w #[.iface 40 (.pointer (some ⟨v.tb 0,0,none⟩)),.int .u64 off] 147 wx)) (by kernel_rfl) ?_
  change wpAnyH _ _ _ _ _ _ _ _ (World.drew _)
  refine tkH 0 ((.slice va3 5 vc3)) rfl (fun w _=>by go_simp) X9.out ?_
  refine tkH 1 (.pointer (some ⟨w.heap.size,1,none⟩)) rfl (fun w _=>by go_simp) X9.out ?_
  refine tkH 3 (.int .u64 hd) rfl (fun w _=>by go_simp) X9.out ?_
  refine tkH 4 (.int .i64 t) rfl (fun w _=>by go_simp) X9.out ?_
  refine tkH 5 (.int .u64 k) rfl (fun w _=>by go_simp) X9.out ?_
  refine tkH 2 (.int .u64 off) rfl (fun wx hx=>Xg 31 (.tmp 93) rfl ⟨w.heap.size,1,none⟩ rfl _ (hx.blk.cell (i:=1) (v:=.int .u64 off) rfl) (Qg1 _)) X9.out ?_
  refine onH 6 rfl (fun K hK => ?_);go_simp
  (with_reducible refine(HMK.out _).mono ?_)
  rintro e w6 ⟨rfl,rfl⟩
  go_simp;refine hK _ _ ⟨X9.out,?_⟩;clear hK K
  refine onH 7 rfl (fun K hK => ?_);go_simp
  (with_reducible refine(HCM.out _ _ _ [(1,bk,(k:Int)),(1,bk+8,x),(2,q1,0),(2,q2,0),(3,0,0)] (by simp) A9.out).mono ?_)
  rintro e w7 ⟨pv,rfl,ha⟩;have A:=hid ha;have X6:=hid (X3.out.next ha.bel)
  go_simp;refine hK _ _ ⟨X6.out,?_⟩;clear hK K
  refine onH 8 rfl (fun K hK => ?_);go_simp;refine hK _ _ ⟨X6.out,?_⟩;clear hK K
  refine onH 9 rfl (fun K hK => ?_);go_simp;refine hK _ _ ⟨X6.out,?_⟩;clear hK K
  refine wpAnyH_done (by kernel_rfl) ?_ _
  go_wp2_with fail
  go_ret2
  exact⟨_,rfl,Acc.mid (_wz:=w) X3.out.bel A.out⟩
theorem Dl(h:IsDev w v own D)(hb:BOk D off)(k:Nat)(hk:k<18446744073709551616)(x:Int)(hf:Qhc D.cur off k = -1)(s:Nat)(hs:s<7)(hu:∀ t,t<s->Xf (bkH D.cur off) t=true)(hn:Xf (bkH D.cur off) s=false)
  (q0 q1:Nat) (hq0:64*(off/64)=q0) (hq1:64*(Qg off s/64)=q1) (hq2:64*((Qg off s+8)/64)=q1) (hc:q1≠q0) :
  Calls prog 72 #[.agg #[.iface 40 (.pointer (some ⟨v.tb 0,0,none⟩)),.int .u64 off],.int .u64 k,.int .u64 x] w (Ij w (Ud off s k x (Yy (bkH D.cur off) s k)) 0):=by
 obtain⟨i0,hi0,hz0,hz1,hz2⟩:=info_parts Xs;have I:=hid (And.intro hi0 (And.intro hz0 (And.intro hz1 hz2)));clear hi0 hz0 hz1 hz2
 have HF:=hid (fun wx (hx:IsDev wx v own D)=>hf ▸ hb.find hx k hk);have hl:=hb.hl;have hln:=h.wf.le
 have HU:=hid (fun wx t (ht:t<s)=>hu t ht ▸ hb.used (w:=wx) t (by omega));have HN:=hid (fun wx=>hn ▸ hb.used (w:=wx) s hs);have HK:=hid (fun(wx:World)=>Vm (w:=wx) (v:=v) off s hs (by omega));have hkb:Qg off s+8<18446744073709551616:=by unfold Qg;omega
 have hkw:IntKind.u64.wrap ((Qg off s:Nat)+8:Int)=(Qg off s:Nat)+8:=IntWalk.u64_in _ (by omega);have HL0:=hid (fun wx=>hq0 ▸ Zo (w:=wx) off (by omega));have HL1:=hid (fun wx=>hq1 ▸ Zo (w:=wx) (Qg off s) (by omega));have hl2:=fun wx=>hq2 ▸ Zo (w:=wx) (Qg off s+8) hkb
 rw[show((Qg off s+8:Nat):Int)=(Qg off s:Nat)+8 by omega]at hl2;have HL2:=hid hl2;have HMK:=hid (fun wx=>Fu (w:=wx) (bkH D.cur off) s k hb.bd hs hk);have HCM:=hid (fun wx w0 pv l hl hp=>Vi (w:=wx) (w0:=w0) pv l off ((Yy (bkH D.cur off) s k:Nat):Int) (by omega) hp hl);have HE:Hid (Ud off s k x (Yy (bkH D.cur off) s k) = [(1,Qg off s,(k:Int)),(1,Qg off s+8,x),(2,q1,0),(3,0,0)]++Qe [(off,((Yy (bkH D.cur off) s k:Nat):Int))]):=by
  show Ud _ _ _ _ _=_
  rw[Fr,stores1];have E:=(show ¬ Qg off s/64=off/64/\¬ (Qg off s+8)/64=off/64/\(Qg off s+8)/64=Qg off s/64 from by omega);simp[E,hq0,hq1]
 rw[HE.out];clear HE;have H:=hid h;have X0:=hid (Bx1.start w #[.iface 40 (.pointer (some ⟨v.tb 0,0,none⟩)),.int .u64 off] 147)
 generalize Yy (bkH D.cur off) s k=mk at *
 generalize bkH D.cur off=hd at *
 generalize Qg off s=bk at *
 have hi0:((q1:Int) != (q0:Int))=true:=by simp;omega
 clear h hf hu hn hl2 hq0 hq1 hq2 hc
 go_enter func72,ntmps72
 go_wp2_with fail
 (with_reducible refine(HF.out _ (H.out.below X0.out.bel)).mono ?_)
 rintro e w1 ⟨rfl,b1⟩;have X1:=hid (X0.out.next b1);clear b1;go_wp2_with fail
 go_loop [9] (fun y=>∃ t:Nat,t<=s/\y = .int .i64 t) (fun y=>s-(intOf y).toNat)
 case atStart=>exact⟨0,by omega,rfl⟩
 case round=>
  obtain⟨t,ht,rfl⟩:=hrel;have h1:(t:Int)<7:=by omega
  by_cases hlt:t<s
  ·have HUT:=hid (fun wx=>HU.out wx t hlt)
   clear HU;go_wp2_with fail
   (with_reducible refine(HUT.out _).mono ?_)
   rintro e w2 ⟨rfl,rfl⟩;go_wp2_with fail
   go_round
   case rel=>exact⟨t+1,by omega,by go_num⟩
   case measure=>simp[intOf];omega
  obtain rfl:t=s:=by omega
  clear HU ht hlt;go_wp2_with fail
  (with_reducible refine(HN.out _).mono ?_)
  rintro e w2 ⟨rfl,rfl⟩;have c0:=X1.out.blk.cell (i:=0) (v:=.iface 40 (.pointer (some ⟨v.tb 0,0,none⟩))) rfl;have c1:=X1.out.blk.cell (i:=1) (v:=.int .u64 off) rfl;go_wp2_with fail
  (with_reducible refine(HK.out _).mono ?_)
  rintro e w3 ⟨rfl,b3⟩;have X3:=hid (X1.out.next b3);clear b3 c0 c1 X1;have A0:Hid (Acc w3 w3.heap.size (w3.alloc (.cells #[.int .u8 1,.int .u64 bk,.int .u64 k,.int .u8 1,.int .u64 ((bk:Int)+8),.int .u64 x] 73)) 73 3 (.slice (some ⟨w3.heap.size,0,none⟩) 2 2) 2 (Qd [(1,bk,(k:Int)),(1,bk+8,x)])):=Qa2 w3 [(1,bk,(k:Int)),(1,bk+8,x)] (by simp) 2 rfl;have X4:=hid (X3.out.next (Qa w3 (.cells #[.int .u8 1,.int .u64 bk,.int .u64 k,.int .u8 1,.int .u64 ((bk:Int)+8),.int .u64 x] 73)));have c1:=X4.out.blk.cell (i:=1) (v:=.int .u64 off) rfl;go_wp2_with fail
  generalize w3.alloc (.cells #[.int .u8 1,.int .u64 bk,.int .u64 k,.int .u8 1,.int .u64 ((bk:Int)+8),.int .u64 x] 73)=w4 at *
  (with_reducible refine(HL0.out _).mono ?_)
  rintro e w5 ⟨rfl,rfl⟩;go_wp2_with fail
  (with_reducible refine(HL1.out _).mono ?_)
  rintro e w5 ⟨rfl,rfl⟩;go_wp2_with fail
  (with_reducible refine(HL2.out _).mono ?_)
  rintro e w5 ⟨rfl,rfl⟩;go_wp2_with (at_builtin;refine Qc _ rfl _ _ 37 rfl 73 i0 _ 3 24 underlying37 I.out.1 I.out.2.1 I.out.2.2.1 I.out.2.2.2 rfl (by decide) _ _ _ rfl (by exact(A0.out.own.alloc _)) _ 1 (Qd [(2,q1,0)]) rfl (by exact Ql.newAt _ _ _ 3 1 _ rfl rfl) (Zn _) (by unfold maxLen;omega) (by omega) ?_)
  intro v1 w11 o1 g1 b1 n1;obtain⟨va1,vc1,hv1⟩:=o1.slice;subst hv1;have A1:=hid (A0.out.next (m:=1) (Qa _ _) o1 g1 b1 (by simp));have X5:=hid (X3.out.next A1.out.bel);clear o1 g1 b1 n1;go_wp2_with (at_builtin;refine Qc _ rfl _ _ 37 rfl 73 i0 _ 3 24 underlying37 I.out.1 I.out.2.1 I.out.2.2.1 I.out.2.2.2 rfl (by decide) _ _ _ rfl (by exact(A1.out.own.alloc _)) _ 1 (Qd [(3,0,0)]) rfl (by exact Ql.newAt _ _ _ 3 1 _ rfl rfl) (Zn _) (by unfold maxLen;omega) (by omega) ?_)
  intro v2 w12 o1 g1 b1 n1;obtain⟨va2,vc2,hv2⟩:=o1.slice;subst hv2;have A2:=hid (A1.out.next (m:=1) (Qa _ _) o1 g1 b1 (by simp));have X6:=hid (X3.out.next A2.out.bel);clear o1 g1 b1 n1;go_wp2_with fail
  have X9:=hid (X6.out.next ((Below.refl _ _).drew));have A9:Hid (Acc w3 w3.heap.size w12.drew 73 3 (.slice va2 4 vc2) 4 (Qd [(1,bk,(k:Int)),(1,bk+8,x),(2,q1,0),(3,0,0)])):=A2.out.drew;clear X6 A2;refine wp_region_held (S:=(fun wx=>Bx1 w #[.iface 40 (.pointer (some ⟨v.tb 0,0,none⟩)),.int .u64 off] 147 wx)) (by kernel_rfl) ?_
  change wpAnyH _ _ _ _ _ _ _ _ (World.drew _)
  refine tkH 0 ((.slice va2 4 vc2)) rfl (fun w _=>by go_simp) X9.out ?_
  refine tkH 1 (.pointer (some ⟨w.heap.size,1,none⟩)) rfl (fun w _=>by go_simp) X9.out ?_
  refine tkH 3 (.int .u64 hd) rfl (fun w _=>by go_simp) X9.out ?_
  refine tkH 4 (.int .i64 t) rfl (fun w _=>by go_simp) X9.out ?_
  refine tkH 5 (.int .u64 k) rfl (fun w _=>by go_simp) X9.out ?_
  refine tkH 2 (.int .u64 off) rfl (fun wx hx=>Xg 31 (.tmp 93) rfl ⟨w.heap.size,1,none⟩ rfl _ (hx.blk.cell (i:=1) (v:=.int .u64 off) rfl) (Qg1 _)) X9.out ?_
  refine onH 6 rfl (fun K hK => ?_);go_simp
  (with_reducible refine(HMK.out _).mono ?_)
  rintro e w6 ⟨rfl,rfl⟩
  go_simp;refine hK _ _ ⟨X9.out,?_⟩;clear hK K
  refine onH 7 rfl (fun K hK => ?_);go_simp
  (with_reducible refine(HCM.out _ _ _ [(1,bk,(k:Int)),(1,bk+8,x),(2,q1,0),(3,0,0)] (by simp) A9.out).mono ?_)
  rintro e w7 ⟨pv,rfl,ha⟩;have A:=hid ha;have X6:=hid (X3.out.next ha.bel)
  go_simp;refine hK _ _ ⟨X6.out,?_⟩;clear hK K
  refine onH 8 rfl (fun K hK => ?_);go_simp;refine hK _ _ ⟨X6.out,?_⟩;clear hK K
  refine onH 9 rfl (fun K hK => ?_);go_simp;refine hK _ _ ⟨X6.out,?_⟩;clear hK K
  refine wpAnyH_done (by kernel_rfl) ?_ _
  go_wp2_with fail
  go_ret2
  exact⟨_,rfl,Acc.mid (_wz:=w) X3.out.bel A.out⟩
theorem Dm(h:IsDev w v own D)(hb:BOk D off)(k:Nat)(hk:k<18446744073709551616)(x:Int)(hf:Qhc D.cur off k = -1)(s:Nat)(hs:s<7)(hu:∀ t,t<s->Xf (bkH D.cur off) t=true)(hn:Xf (bkH D.cur off) s=false)
  (q0 q2:Nat) (hq0:64*(off/64)=q0) (hq1:64*(Qg off s/64)=q0) (hq2:64*((Qg off s+8)/64)=q2) (hc:q2≠q0) :
  Calls prog 72 #[.agg #[.iface 40 (.pointer (some ⟨v.tb 0,0,none⟩)),.int .u64 off],.int .u64 k,.int .u64 x] w (Ij w (Ud off s k x (Yy (bkH D.cur off) s k)) 0):=by
 obtain⟨i0,hi0,hz0,hz1,hz2⟩:=info_parts Xs;have I:=hid (And.intro hi0 (And.intro hz0 (And.intro hz1 hz2)));clear hi0 hz0 hz1 hz2
 have HF:=hid (fun wx (hx:IsDev wx v own D)=>hf ▸ hb.find hx k hk);have hl:=hb.hl;have hln:=h.wf.le
 have HU:=hid (fun wx t (ht:t<s)=>hu t ht ▸ hb.used (w:=wx) t (by omega));have HN:=hid (fun wx=>hn ▸ hb.used (w:=wx) s hs);have HK:=hid (fun(wx:World)=>Vm (w:=wx) (v:=v) off s hs (by omega));have hkb:Qg off s+8<18446744073709551616:=by unfold Qg;omega
 have hkw:IntKind.u64.wrap ((Qg off s:Nat)+8:Int)=(Qg off s:Nat)+8:=IntWalk.u64_in _ (by omega);have HL0:=hid (fun wx=>hq0 ▸ Zo (w:=wx) off (by omega));have HL1:=hid (fun wx=>hq1 ▸ Zo (w:=wx) (Qg off s) (by omega));have hl2:=fun wx=>hq2 ▸ Zo (w:=wx) (Qg off s+8) hkb
 rw[show((Qg off s+8:Nat):Int)=(Qg off s:Nat)+8 by omega]at hl2;have HL2:=hid hl2;have HMK:=hid (fun wx=>Fu (w:=wx) (bkH D.cur off) s k hb.bd hs hk);have HCM:=hid (fun wx w0 pv l hl hp=>Vi (w:=wx) (w0:=w0) pv l off ((Yy (bkH D.cur off) s k:Nat):Int) (by omega) hp hl);have HE:Hid (Ud off s k x (Yy (bkH D.cur off) s k) = [(1,Qg off s,(k:Int)),(1,Qg off s+8,x),(2,q2,0),(3,0,0)]++Qe [(off,((Yy (bkH D.cur off) s k:Nat):Int))]):=by
  show Ud _ _ _ _ _=_
  rw[Fr,stores1];have E:=(show Qg off s/64=off/64/\¬ (Qg off s+8)/64=off/64/\¬ (Qg off s+8)/64=Qg off s/64 from by omega);simp[E,hq0,hq2]
 rw[HE.out];clear HE;have H:=hid h;have X0:=hid (Bx1.start w #[.iface 40 (.pointer (some ⟨v.tb 0,0,none⟩)),.int .u64 off] 147)
 generalize Yy (bkH D.cur off) s k=mk at *
 generalize bkH D.cur off=hd at *
 generalize Qg off s=bk at *
 have hi0:((q2:Int) != (q0:Int))=true:=by simp;omega
 clear h hf hu hn hl2 hq0 hq1 hq2 hc
 go_enter func72,ntmps72
 go_wp2_with fail
 (with_reducible refine(HF.out _ (H.out.below X0.out.bel)).mono ?_)
 rintro e w1 ⟨rfl,b1⟩;have X1:=hid (X0.out.next b1);clear b1;go_wp2_with fail
 go_loop [9] (fun y=>∃ t:Nat,t<=s/\y = .int .i64 t) (fun y=>s-(intOf y).toNat)
 case atStart=>exact⟨0,by omega,rfl⟩
 case round=>
  obtain⟨t,ht,rfl⟩:=hrel;have h1:(t:Int)<7:=by omega
  by_cases hlt:t<s
  ·have HUT:=hid (fun wx=>HU.out wx t hlt)
   clear HU;go_wp2_with fail
   (with_reducible refine(HUT.out _).mono ?_)
   rintro e w2 ⟨rfl,rfl⟩;go_wp2_with fail
   go_round
   case rel=>exact⟨t+1,by omega,by go_num⟩
   case measure=>simp[intOf];omega
  obtain rfl:t=s:=by omega
  clear HU ht hlt;go_wp2_with fail
  (with_reducible refine(HN.out _).mono ?_)
  rintro e w2 ⟨rfl,rfl⟩;have c0:=X1.out.blk.cell (i:=0) (v:=.iface 40 (.pointer (some ⟨v.tb 0,0,none⟩))) rfl;have c1:=X1.out.blk.cell (i:=1) (v:=.int .u64 off) rfl;go_wp2_with fail
  (with_reducible refine(HK.out _).mono ?_)
  rintro e w3 ⟨rfl,b3⟩;have X3:=hid (X1.out.next b3);clear b3 c0 c1 X1;have A0:Hid (Acc w3 w3.heap.size (w3.alloc (.cells #[.int .u8 1,.int .u64 bk,.int .u64 k,.int .u8 1,.int .u64 ((bk:Int)+8),.int .u64 x] 73)) 73 3 (.slice (some ⟨w3.heap.size,0,none⟩) 2 2) 2 (Qd [(1,bk,(k:Int)),(1,bk+8,x)])):=Qa2 w3 [(1,bk,(k:Int)),(1,bk+8,x)] (by simp) 2 rfl;have X4:=hid (X3.out.next (Qa w3 (.cells #[.int .u8 1,.int .u64 bk,.int .u64 k,.int .u8 1,.int .u64 ((bk:Int)+8),.int .u64 x] 73)));have c1:=X4.out.blk.cell (i:=1) (v:=.int .u64 off) rfl;go_wp2_with fail
  generalize w3.alloc (.cells #[.int .u8 1,.int .u64 bk,.int .u64 k,.int .u8 1,.int .u64 ((bk:Int)+8),.int .u64 x] 73)=w4 at *
  (with_reducible refine(HL0.out _).mono ?_)
  rintro e w5 ⟨rfl,rfl⟩;go_wp2_with fail
  (with_reducible refine(HL1.out _).mono ?_)
  rintro e w5 ⟨rfl,rfl⟩;go_wp2_with fail
  (with_reducible refine(HL2.out _).mono ?_)
  rintro e w5 ⟨rfl,rfl⟩;go_wp2_with (at_builtin;refine Qc _ rfl _ _ 37 rfl 73 i0 _ 3 24 underlying37 I.out.1 I.out.2.1 I.out.2.2.1 I.out.2.2.2 rfl (by decide) _ _ _ rfl (by exact(A0.out.own.alloc _)) _ 1 (Qd [(2,q2,0)]) rfl (by exact Ql.newAt _ _ _ 3 1 _ rfl rfl) (Zn _) (by unfold maxLen;omega) (by omega) ?_)
  intro v1 w11 o1 g1 b1 n1;obtain⟨va1,vc1,hv1⟩:=o1.slice;subst hv1;have A1:=hid (A0.out.next (m:=1) (Qa _ _) o1 g1 b1 (by simp));have X5:=hid (X3.out.next A1.out.bel);clear o1 g1 b1 n1;go_wp2_with (at_builtin;refine Qc _ rfl _ _ 37 rfl 73 i0 _ 3 24 underlying37 I.out.1 I.out.2.1 I.out.2.2.1 I.out.2.2.2 rfl (by decide) _ _ _ rfl (by exact(A1.out.own.alloc _)) _ 1 (Qd [(3,0,0)]) rfl (by exact Ql.newAt _ _ _ 3 1 _ rfl rfl) (Zn _) (by unfold maxLen;omega) (by omega) ?_)
  intro v2 w12 o1 g1 b1 n1;obtain⟨va2,vc2,hv2⟩:=o1.slice;subst hv2;have A2:=hid (A1.out.next (m:=1) (Qa _ _) o1 g1 b1 (by simp));have X6:=hid (X3.out.next A2.out.bel);clear o1 g1 b1 n1;go_wp2_with fail
  have X9:=hid (X6.out.next ((Below.refl _ _).drew));have A9:Hid (Acc w3 w3.heap.size w12.drew 73 3 (.slice va2 4 vc2) 4 (Qd [(1,bk,(k:Int)),(1,bk+8,x),(2,q2,0),(3,0,0)])):=A2.out.drew;clear X6 A2;refine wp_region_held (S:=(fun wx=>Bx1 w #[.iface 40 (.pointer (some ⟨v.tb 0,0,none⟩)),.int .u64 off] 147 wx)) (by kernel_rfl) ?_
  change wpAnyH _ _ _ _ _ _ _ _ (World.drew _)
  refine tkH 0 ((.slice va2 4 vc2)) rfl (fun w _=>by go_simp) X9.out ?_
  refine tkH 1 (.pointer (some ⟨w.heap.size,1,none⟩)) rfl (fun w _=>by go_simp) X9.out ?_
  refine tkH 3 (.int .u64 hd) rfl (fun w _=>by go_simp) X9.out ?_
  refine tkH 4 (.int .i64 t) rfl (fun w _=>by go_simp) X9.out ?_
  refine tkH 5 (.int .u64 k) rfl (fun w _=>by go_simp) X9.out ?_
  refine tkH 2 (.int .u64 off) rfl (fun wx hx=>Xg 31 (.tmp 93) rfl ⟨w.heap.size,1,none⟩ rfl _ (hx.blk.cell (i:=1) (v:=.int .u64 off) rfl) (Qg1 _)) X9.out ?_
  refine onH 6 rfl (fun K hK => ?_);go_simp
  (with_reducible refine(HMK.out _).mono ?_)
  rintro e w6 ⟨rfl,rfl⟩
  go_simp;refine hK _ _ ⟨X9.out,?_⟩;clear hK K
  refine onH 7 rfl (fun K hK => ?_);go_simp
  (with_reducible refine(HCM.out _ _ _ [(1,bk,(k:Int)),(1,bk+8,x),(2,q2,0),(3,0,0)] (by simp) A9.out).mono ?_)
  rintro e w7 ⟨pv,rfl,ha⟩;have A:=hid ha;have X6:=hid (X3.out.next ha.bel)
  go_simp;refine hK _ _ ⟨X6.out,?_⟩;clear hK K
  refine onH 8 rfl (fun K hK => ?_);go_simp;refine hK _ _ ⟨X6.out,?_⟩;clear hK K
  refine onH 9 rfl (fun K hK => ?_);go_simp;refine hK _ _ ⟨X6.out,?_⟩;clear hK K
  refine wpAnyH_done (by kernel_rfl) ?_ _
  go_wp2_with fail
  go_ret2
  exact⟨_,rfl,Acc.mid (_wz:=w) X3.out.bel A.out⟩
theorem Dn(h:IsDev w v own D)(hb:BOk D off)(k:Nat)(hk:k<18446744073709551616)(x:Int)(hf:Qhc D.cur off k = -1)(s:Nat)(hs:s<7)(hu:∀ t,t<s->Xf (bkH D.cur off) t=true)(hn:Xf (bkH D.cur off) s=false)
  (q0:Nat) (hq0:64*(off/64)=q0) (hq1:64*(Qg off s/64)=q0) (hq2:64*((Qg off s+8)/64)=q0) :
  Calls prog 72 #[.agg #[.iface 40 (.pointer (some ⟨v.tb 0,0,none⟩)),.int .u64 off],.int .u64 k,.int .u64 x] w (Ij w (Ud off s k x (Yy (bkH D.cur off) s k)) 0):=by
 obtain⟨i0,hi0,hz0,hz1,hz2⟩:=info_parts Xs;have I:=hid (And.intro hi0 (And.intro hz0 (And.intro hz1 hz2)));clear hi0 hz0 hz1 hz2
 have HF:=hid (fun wx (hx:IsDev wx v own D)=>hf ▸ hb.find hx k hk);have hl:=hb.hl;have hln:=h.wf.le
 have HU:=hid (fun wx t (ht:t<s)=>hu t ht ▸ hb.used (w:=wx) t (by omega));have HN:=hid (fun wx=>hn ▸ hb.used (w:=wx) s hs);have HK:=hid (fun(wx:World)=>Vm (w:=wx) (v:=v) off s hs (by omega));have hkb:Qg off s+8<18446744073709551616:=by unfold Qg;omega
 have hkw:IntKind.u64.wrap ((Qg off s:Nat)+8:Int)=(Qg off s:Nat)+8:=IntWalk.u64_in _ (by omega);have HL0:=hid (fun wx=>hq0 ▸ Zo (w:=wx) off (by omega));have HL1:=hid (fun wx=>hq1 ▸ Zo (w:=wx) (Qg off s) (by omega));have hl2:=fun wx=>hq2 ▸ Zo (w:=wx) (Qg off s+8) hkb
 rw[show((Qg off s+8:Nat):Int)=(Qg off s:Nat)+8 by omega]at hl2;have HL2:=hid hl2;have HMK:=hid (fun wx=>Fu (w:=wx) (bkH D.cur off) s k hb.bd hs hk);have HCM:=hid (fun wx w0 pv l hl hp=>Vi (w:=wx) (w0:=w0) pv l off ((Yy (bkH D.cur off) s k:Nat):Int) (by omega) hp hl);have HE:Hid (Ud off s k x (Yy (bkH D.cur off) s k) = [(1,Qg off s,(k:Int)),(1,Qg off s+8,x)]++Qe [(off,((Yy (bkH D.cur off) s k:Nat):Int))]):=by
  show Ud _ _ _ _ _=_
  rw[Fr,stores1];have E:=(show Qg off s/64=off/64/\(Qg off s+8)/64=off/64/\(Qg off s+8)/64=Qg off s/64 from by omega);simp[E,hq0]
 rw[HE.out];clear HE;have H:=hid h;have X0:=hid (Bx1.start w #[.iface 40 (.pointer (some ⟨v.tb 0,0,none⟩)),.int .u64 off] 147)
 generalize Yy (bkH D.cur off) s k=mk at *
 generalize bkH D.cur off=hd at *
 generalize Qg off s=bk at *
 clear h hf hu hn hl2 hq0 hq1 hq2
 go_enter func72,ntmps72
 go_wp2_with fail
 (with_reducible refine(HF.out _ (H.out.below X0.out.bel)).mono ?_)
 rintro e w1 ⟨rfl,b1⟩;have X1:=hid (X0.out.next b1);clear b1;go_wp2_with fail
 go_loop [9] (fun y=>∃ t:Nat,t<=s/\y = .int .i64 t) (fun y=>s-(intOf y).toNat)
 case atStart=>exact⟨0,by omega,rfl⟩
 case round=>
  obtain⟨t,ht,rfl⟩:=hrel;have h1:(t:Int)<7:=by omega
  by_cases hlt:t<s
  ·have HUT:=hid (fun wx=>HU.out wx t hlt)
   clear HU;go_wp2_with fail
   (with_reducible refine(HUT.out _).mono ?_)
   rintro e w2 ⟨rfl,rfl⟩;go_wp2_with fail
   go_round
   case rel=>exact⟨t+1,by omega,by go_num⟩
   case measure=>simp[intOf];omega
  obtain rfl:t=s:=by omega
  clear HU ht hlt;go_wp2_with fail
  (with_reducible refine(HN.out _).mono ?_)
  rintro e w2 ⟨rfl,rfl⟩;have c0:=X1.out.blk.cell (i:=0) (v:=.iface 40 (.pointer (some ⟨v.tb 0,0,none⟩))) rfl;have c1:=X1.out.blk.cell (i:=1) (v:=.int .u64 off) rfl;go_wp2_with fail
  (with_reducible refine(HK.out _).mono ?_)
  rintro e w3 ⟨rfl,b3⟩;have X3:=hid (X1.out.next b3);clear b3 c0 c1 X1;have A0:Hid (Acc w3 w3.heap.size (w3.alloc (.cells #[.int .u8 1,.int .u64 bk,.int .u64 k,.int .u8 1,.int .u64 ((bk:Int)+8),.int .u64 x] 73)) 73 3 (.slice (some ⟨w3.heap.size,0,none⟩) 2 2) 2 (Qd [(1,bk,(k:Int)),(1,bk+8,x)])):=Qa2 w3 [(1,bk,(k:Int)),(1,bk+8,x)] (by simp) 2 rfl;have X4:=hid (X3.out.next (Qa w3 (.cells #[.int .u8 1,.int .u64 bk,.int .u64 k,.int .u8 1,.int .u64 ((bk:Int)+8),.int .u64 x] 73)));have c1:=X4.out.blk.cell (i:=1) (v:=.int .u64 off) rfl;go_wp2_with fail
  generalize w3.alloc (.cells #[.int .u8 1,.int .u64 bk,.int .u64 k,.int .u8 1,.int .u64 ((bk:Int)+8),.int .u64 x] 73)=w4 at *
  (with_reducible refine(HL0.out _).mono ?_)
  rintro e w5 ⟨rfl,rfl⟩;go_wp2_with fail
  (with_reducible refine(HL1.out _).mono ?_)
  rintro e w5 ⟨rfl,rfl⟩;go_wp2_with fail
  (with_reducible refine(HL2.out _).mono ?_)
  rintro e w5 ⟨rfl,rfl⟩;go_wp2_with fail
  have X9:=hid (X4.out.next ((Below.refl _ _).drew));have A9:Hid (Acc w3 w3.heap.size w4.drew 73 3 (.slice (some ⟨w3.heap.size,0,none⟩) 2 2) 2 (Qd [(1,bk,(k:Int)),(1,bk+8,x)])):=A0.out.drew;clear X4 A0;refine wp_region_held (S:=(fun wx=>Bx1 w #[.iface 40 (.pointer (some ⟨v.tb 0,0,none⟩)),.int .u64 off] 147 wx)) (by kernel_rfl) ?_
  change wpAnyH _ _ _ _ _ _ _ _ (World.drew _)
  refine tkH 0 ((.slice (some ⟨w3.heap.size,0,none⟩) 2 2)) rfl (fun w _=>by go_simp) X9.out ?_
  refine tkH 1 (.pointer (some ⟨w.heap.size,1,none⟩)) rfl (fun w _=>by go_simp) X9.out ?_
  refine tkH 3 (.int .u64 hd) rfl (fun w _=>by go_simp) X9.out ?_
  refine tkH 4 (.int .i64 t) rfl (fun w _=>by go_simp) X9.out ?_
  refine tkH 5 (.int .u64 k) rfl (fun w _=>by go_simp) X9.out ?_
  refine tkH 2 (.int .u64 off) rfl (fun wx hx=>Xg 31 (.tmp 93) rfl ⟨w.heap.size,1,none⟩ rfl _ (hx.blk.cell (i:=1) (v:=.int .u64 off) rfl) (Qg1 _)) X9.out ?_
  refine onH 6 rfl (fun K hK => ?_);go_simp
  (with_reducible refine(HMK.out _).mono ?_)
  rintro e w6 ⟨rfl,rfl⟩
  go_simp;refine hK _ _ ⟨X9.out,?_⟩;clear hK K
  refine onH 7 rfl (fun K hK => ?_);go_simp
  (with_reducible refine(HCM.out _ _ _ [(1,bk,(k:Int)),(1,bk+8,x)] (by simp) A9.out).mono ?_)
  rintro e w7 ⟨pv,rfl,ha⟩;have A:=hid ha;have X6:=hid (X3.out.next ha.bel)
  go_simp;refine hK _ _ ⟨X6.out,?_⟩;clear hK K
  refine onH 8 rfl (fun K hK => ?_);go_simp;refine hK _ _ ⟨X6.out,?_⟩;clear hK K
  refine onH 9 rfl (fun K hK => ?_);go_simp;refine hK _ _ ⟨X6.out,?_⟩;clear hK K
  refine wpAnyH_done (by kernel_rfl) ?_ _
  go_wp2_with fail
  go_ret2
  exact⟨_,rfl,Acc.mid (_wz:=w) X3.out.bel A.out⟩
theorem Qaz(h:IsDev w v own D)(hb:BOk D off)(k:Nat)(hk:k<18446744073709551616)(x:Int)(hf:Qhc D.cur off k = -1)(s:Nat)(hs:s<7)(hu:∀ t,t<s->Xf (bkH D.cur off) t=true)(hn:Xf (bkH D.cur off) s=false) :
  Calls prog 72 #[.agg #[.iface 40 (.pointer (some ⟨v.tb 0,0,none⟩)),.int .u64 off],.int .u64 k,.int .u64 x] w (Ij w (Ud off s k x (Yy (bkH D.cur off) s k)) 0):=by
 have hk8:off+16<=Qg off s:=by unfold Qg;omega
 by_cases e1:Qg off s/64=off/64
 ·by_cases e2:(Qg off s+8)/64=off/64
  ·exact Dn h hb k hk x hf s hs hu hn _ rfl (by rw[e1]) (by rw[e2])
  ·exact Dm h hb k hk x hf s hs hu hn _ _ rfl (by rw[e1]) rfl (by omega)
 ·by_cases e2:(Qg off s+8)/64=Qg off s/64
  ·exact Dl h hb k hk x hf s hs hu hn _ _ rfl rfl (by rw[e2]) (by omega)
  ·exact Dk h hb k hk x hf s hs hu hn _ _ _ rfl rfl rfl (by omega)
theorem Kd(h:IsDev w v own D)(hb:BOk D off)(hi:Gk D.cur off)(k:Nat)(hk:k<18446744073709551616)(x:Int) :
  Calls prog 72 #[.agg #[.iface 40 (.pointer (some ⟨v.tb 0,0,none⟩)),.int .u64 off],.int .u64 k,.int .u64 x] w (Ij w (Rm D.cur off k x) (Qdk D.cur off k)):=by
 have hr:=Qna hi k;unfold Rm Qdk;rw[<- hr]
 rcases Vj D.cur off k with ⟨e,_⟩ | ⟨s,e,hs,_⟩
 ·rw[<- hr]at e
  rw[e,if_neg (show ¬ (0:Int) <= -1 by decide),if_neg (show ¬ (0:Int) <= -1 by decide)]
  rcases Sg (fun s => !Xf (bkH D.cur off) s) 7 with ⟨h1,h2⟩ | ⟨s,h1,h2,h3,h4⟩
  ·rw[show Qff (bkH D.cur off) = -1 from h1,if_neg (show ¬ (0:Int) <= -1 by decide),if_neg (show ¬ (0:Int) <= -1 by decide)]
   exact Dj h hb k hk x e (fun t ht=>by simpa using h2 t ht)
  ·rw[show Qff (bkH D.cur off)=(s:Nat)from h1,if_pos (show(0:Int)<=(s:Nat)by omega),if_pos (show(0:Int)<=(s:Nat)by omega)]
   exact Qaz h hb k hk x e s h2 (fun t ht=>by simpa using h4 t ht) (by simpa using h3)
 ·rw[<- hr]at e
  rw[e,if_pos (show(0:Int)<=(s:Nat)by omega),if_pos (show(0:Int)<=(s:Nat)by omega)];exact Qa0 h hb k hk x s hs e
theorem Sh(h:IsDev w v own D)(hb:BOk D off)(hi:Gk D.cur off)(k:Nat)(hk:k<18446744073709551616) :
  Calls prog 176 #[.agg #[.iface 40 (.pointer (some ⟨v.tb 0,0,none⟩)),.int .u64 off],.int .u64 k] w fun r w'=>r = .returned (.tuple #[.int .u64 (Qxb D.cur off k),.int .i64 (Qxa D.cur off k)])/\Below w.heap.size w w':=by
 have hr:=Qna hi k;unfold Qxb Qxa;rw[<- hr]
 rcases Vj D.cur off k with ⟨e,_⟩ | ⟨s,e,hs,_⟩
 ·rw[<- hr]at e
  rw[e,if_neg (show ¬ (0:Int) <= -1 by decide),if_neg (show ¬ (0:Int) <= -1 by decide)];exact Qjb h hb k hk e
 ·rw[<- hr]at e
  rw[e,if_pos (show(0:Int)<=(s:Nat)by omega),if_pos (show(0:Int)<=(s:Nat)by omega)];exact Qjc h hb k hk s hs e
end
end

section
theorem Qfd(offs:List Nat)(h:∀ o∈offs,o<18446744073709551616):Qz (Zs offs):=by
 intro e he;unfold Zs at he
 split at he
 ·simp at he
 ·rcases List.mem_append.1 he with h1 | h1
  ·obtain⟨l,hl,rfl⟩:=List.mem_map.1 h1
   have:=Gy offs 288230376151711744 (fun o ho=>by have:=h o ho;omega) l hl;exact⟨by simp,by simp,by simp only;omega⟩
  ·simp at h1;subst h1;exact⟨by simp,by simp,by simp⟩
theorem Fi(o:Nat)(x:Int)(h:o<18446744073709551616):Qz (Qe [(o,x)]):=by
 rw[stores1];intro e he;simp at he
 rcases he with rfl | rfl | rfl
 ·exact⟨by simp,by simp,h⟩
 ·exact⟨by simp,by simp,by simp only;omega⟩
 ·exact⟨by simp,by simp,by simp⟩
theorem Sj{a b:List (Nat×Nat×Int)}(ha:Qz a)(hb:Qz b):Qz (a++b):=fun e he=>by
 rcases List.mem_append.1 he with h | h
 ·exact ha e h
 ·exact hb e h
theorem Ql4(off s:Nat)(k x:Int)(h:Nat):(Ud off s k x h).length<=9:=by
 rw[Fr];simp only[List.length_append,List.length_cons,List.length_nil]
 repeat' split
 all_goals simp
theorem Qtw(C:Nat->Int)(off k:Nat)(x:Int):(Rm C off k x).length<=9:=by
 unfold Rm
 split
 ·unfold Qes;rw[stores1];simp
 ·split
  ·exact Ql4 _ _ _ _ _
  ·simp
theorem Qyd(C:Nat->Int)(off k:Nat)(x:Int)(hl:off+128<18446744073709551616):Qz (Rm C off k x):=by
 unfold Rm
 rcases Vj C off k with ⟨e,_⟩ | ⟨s,e,hs,_⟩
 ·rw[if_neg (by omega)]
  rcases Sf (bkH C off)with ⟨e2,_⟩ | ⟨s,e2,hs,_⟩
  ·rw[if_neg (by omega)];intro e he;simp at he
  ·rw[if_pos (by omega),e2]
   unfold Ud;refine Sj (Sj (fun e he => ?_) (Qfd _ fun o ho => ?_)) (Fi _ _ (by omega))
   ·simp at he
    rcases he with rfl | rfl
    ·exact⟨by simp,by simp,by simp only[Qg];omega⟩
    ·exact⟨by simp,by simp,by simp only[Qg];omega⟩
   ·have:=(List.mem_filter.1 ho).1
    simp[Qg]at this;omega
 ·rw[if_pos (by omega),e]
  unfold Qes;exact Fi _ _ (by unfold Qg;omega)
theorem Qke(C:Nat->Int)(off k:Nat)(x:Int):Qdk C off k=0\/(Qdk C off k=4/\Rm C off k x = []):=by
 unfold Qdk Rm
 split
 ·exact .inl rfl
 ·split
  ·exact .inl rfl
  ·exact .inr ⟨rfl,rfl⟩
section
variable{w:World}{v:DV}{own:Nat->Option Qp}{D:Dev}{off:Nat}
theorem Qr.past31{w1 w2:World}{D':Dev}(hb:Below w.heap.size w w1)(h:Qr v own w1 D' w2):Qr v own w D' w2:=Qr.next (fun _ _=>rfl) (Upd.of_below hb) h
theorem Qpx(h:IsDev w v own D){j:Nat}(hj:j<8){w1:World}{pv:Value}{P:List (Nat×Nat×Int)}(ha:Acc w w.heap.size w1 73 3 pv P.length (Qd P))(hi:Qz P)(hl:P.length<=100000)(hx:D.exec+1000000<4294967296) :
  Calls prog 12 #[pv,.iface 40 (.pointer (some ⟨v.tb j,0,none⟩))] w1 fun r w'=>r = .returned (.int .i64 ((D.run j P).err j))/\Qr v own w (D.run j P) w':=
 (Km (h.below ha.bel) hj pv P ha.rd (fun k hk=>by
  have:=ha.new k hk
  cases ho:own k with
  | none=>rfl
  | some r=>have:=h.lt k (by rw[ho];simp);omega) hi hl (by omega)).mono fun r w' hp=>⟨hp.1,hp.2.past31 ha.bel⟩
theorem Qdj(h:IsDev w v own D)(hb:BOk D off)(hi:Gk D.cur off)(k:Nat)(hk:k<18446744073709551616)(x:Int)(hx:D.exec+1000000<4294967296) :
  Calls prog 114 #[.agg #[.iface 40 (.pointer (some ⟨v.tb 0,0,none⟩)),.int .u64 off],.int .u64 k,.int .u64 x] w fun r w'=>r = .returned (.int .i64 (if Qdk D.cur off k=0 then(D.run 0 (Rm D.cur off k x)).err 0 else Qdk D.cur off k))/\Qr v own w (D.run 0 (Rm D.cur off k x)) w':=by
 have hl:=hb.hl;have hn:=h.wf.le
 have HP:=hid (fun wx (hx:IsDev wx v own D)=>Kd hx hb hi k hk x);have HR:=hid (fun wx w1 pv (h1:IsDev wx v own D) ha=>Qpx (w:=wx) h1 (j:=0) (by omega) (w1:=w1) (pv:=pv) (P:=Rm D.cur off k x) ha (Qyd D.cur off k x (by omega)) (by have:=Qtw D.cur off k x;omega) hx);have hc:=Qke D.cur off k x;have H:=hid h;have X0:=hid (Bx1.start w #[.iface 40 (.pointer (some ⟨v.tb 0,0,none⟩)),.int .u64 off] 147)
 generalize Qdk D.cur off k=pe at *
 generalize Rm D.cur off k x=pl at *
 clear h hi
 rcases hc with rfl | ⟨rfl,rfl⟩
 ·go_enter func114,ntmps114
  go_wp2_with fail
  (with_reducible refine(HP.out _ (H.out.below X0.out.bel)).mono ?_)
  rintro e w1 ⟨pv,rfl,ha⟩;have A:=hid ha;have X1:=hid (X0.out.next ha.bel);obtain⟨pa,pc,rfl⟩:=ha.slice;clear ha;have c0:=X1.out.blk.cell (i:=0) (v:=.iface 40 (.pointer (some ⟨v.tb 0,0,none⟩))) rfl;go_wp2_with fail
  (with_reducible refine(HR.out _ _ _ (H.out.below X0.out.bel) A.out).mono ?_)
  rintro e w2 ⟨rfl,hp⟩;have P:=hid hp;clear hp
  go_wp2_with fail
  go_ret
  exact⟨by simp,P.out.past31 X0.out.bel⟩
 ·go_enter func114,ntmps114
  go_wp2_with fail
  (with_reducible refine(HP.out _ (H.out.below X0.out.bel)).mono ?_)
  rintro e w1 ⟨pv,rfl,ha⟩;have X1:=hid (X0.out.next ha.bel);clear ha;go_wp2_with fail
  go_ret
  exact⟨by simp,(Qr.refl (H.out.below X1.out.bel)).past31 X1.out.bel⟩
end
end

section
open Go.RowKit Go.Shelf
attribute [local go_sem] Oper.semAt_some
def KpB(B:Nat)(W W':World):Prop:=W.heap.size<=W'.heap.size/\(∀ k,k<B->W'.heap[k]? = W.heap[k]?)/\∀ (k:Nat) (c:Array Value) (t:TypeId) (f:Nat×Nat),W.heap[k]? = some (.cells c t f)->t≠194->t≠186->W'.heap[k]? = some (.cells c t f)
theorem KpB.trans{B:Nat}{W0 W1 W2:World}(h:KpB B W0 W1)(k:KpB B W1 W2):KpB B W0 W2:=⟨Nat.le_trans h.1 k.1,fun i hi=>(k.2.1 i hi).trans (h.2.1 i hi),fun i c t f hi h1 h2=>k.2.2 i c t f (h.2.2 i c t f hi h1 h2) h1 h2⟩
theorem Q6v{w:World}(W:World)(l:Nat)(o o':Obj)(hl:w.heap.size<=l)(h:W.heap[l]? = some o)(hc:o.isCells=false)(_:o.isWalk=false):KpB w.heap.size W (W.putObj l o'):=by
 have hg:=grownBy_putObj' W l o';have hlt:=lt_of_block h;refine⟨hg.size,fun k hk=>hg.block k (by omega) (fun e=>by cases e;omega),fun k c t f hk _ _ => ?_⟩
 rw[hg.block k (lt_of_block hk) (fun e => ?_)]
 ·exact hk
 ·cases e;rw[h]at hk;cases hk;cases hc
theorem KpB.blk{B:Nat}{W W':World}(h:KpB B W W'){b:Nat}{c:Array Value}{t:TypeId}(hb:Blk W b c t)(h1:t≠194)(h2:t≠186):Blk W' b c t:=h.2.2 b c t _ hb h1 h2
theorem Qjh{W w1:World}{B base:Nat}{v v':Value}{k:Nat}{xs:List Value}{tmp:Array Value}(hv:Boxed W B 186 v)(hrow:W.ownsRow base 194 2 v k xs)(hBb:base<=B)(hbs:base<=W.heap.size)(hg:(W.alloc (.cells tmp 194)).grownBy w1 v.ownBlock) :
  KpB base W (w1.setCell ⟨B,0,none⟩ v'):=by
 refine⟨Nat.le_trans (by simp) (Nat.le_trans hg.size (by simp[World.setCell])),fun j hj => ?_,fun j c t f hj h1 h2 => ?_⟩
 ·rw[Below.heap_setCell _ _ _ _ (show j≠B by omega),hg.block j (by simp;omega) (fun e => ?_)]
  ·exact Below.heap_alloc _ _ _ (by omega)
  ·rcases hrow.2 with ⟨rfl,_⟩ | ⟨g,cap,cur,rfl,hge,_⟩
   ·simp[Value.ownBlock]at e
   ·obtain rfl:j=g:=by simpa [Value.ownBlock]using e
    omega
 ·have hlt:=lt_of_block hj
  rw[Below.heap_setCell _ _ _ _ (fun e => ?_)]
  ·rw[hg.block j (by simp;omega) (fun e => ?_)]
   ·exact(Below.heap_alloc _ _ _ hlt).trans hj
   ·rcases hrow.2 with ⟨rfl,_⟩ | ⟨g,cap,cur,rfl,_,hgb,_⟩
    ·simp[Value.ownBlock]at e
    ·obtain rfl:j=g:=by simpa [Value.ownBlock]using e
     rw[hgb]at hj;cases hj;exact h1 rfl
  ·have e':j=B:=e
   subst e';have:=(show W.heap[j]? = _ from hv).symm.trans hj
   cases this;exact h2 rfl
abbrev Q4i(x:Int×Int):Array Value:=#[.int .u64 x.1,.int .u64 x.2]
theorem Bg{W W':World}(h:Below W.heap.size W W'):W.grownBy W' none:=⟨h.os,h.tape,h.output,h.size,fun k hk _=>h.block k hk⟩
theorem Dd{β:Type}{B:Nat}{J:β->World->Prop}(hJ:AbidesFrom B J){s:β}{W W':World}(h:J s W)(hb:Below W.heap.size W W'):J s W':=hJ s W W' none h (Bg hb) (fun r e=>by cases e)
theorem Qr7(C:Nat->Int)(off:Nat):∀ k,k<=7->Th C off k <+: Th C off 7:=by
 have:∀ d k,k+d=7->Th C off k <+: Th C off 7:=by
  intro d
  induction d with
  | zero => intro k hk;obtain rfl:k=7:=by omega
            exact List.prefix_refl _
  | succ d ih=>
   intro k hk;have:=ih (k+1) (by omega);rw[Aw]at this;exact(List.prefix_append _ _).trans this
 intro k hk;exact this (7-k) k (by omega)
structure Qed(bl:Nat)(v:DV)(own:Nat->Option Qp)(D:Dev)(off:Nat)(J:World->Prop)(wx:World):Prop where
 box:Blk wx bl #[.iface 40 (.pointer (some ⟨v.tb 0,0,none⟩)),.int .u64 off] 147
 dev:IsDev wx v own D
 j:J wx
section
variable{W:World}{v:DV}{own:Nat->Option Qp}{D:Dev}{off:Nat}
theorem Qed.below{bl:Nat}{B:Nat}{J:List (Int×Int)->World->Prop}{pre:List (Int×Int)}{wx wy:World}(hJ:AbidesFrom B J)(h:Qed bl v own D off (J pre) wx)(hb:Below wx.heap.size wx wy):Qed bl v own D off (J pre) wy:=
 ⟨h.box.below hb,h.dev.below hb,Dd hJ h.j hb⟩
theorem Qrd(n:Nat)(hn:1<=n)(l bl:Nat)(J Jx:List (Int×Int)->World->Prop)(B:Nat)(hJ:AbidesFrom W.heap.size J)(hd:IsDev W v own D)(hob:∀ k,own k≠none->k<B)(hb:BOk D off)
  (hY:∀ pre x W1,J pre W1->pre.length<(Th D.cur off 7).length->YieldAt Fence.wide (n-1) prog l (Q4i x) W1 fun e W'=>(e = .returned (.bool true)/\J (pre ++ [x]) W'/\KpB B W1 W')\/(e = .returned (.bool false)/\Jx (pre ++ [x]) W'))
  (hbl:Blk W bl #[.iface 40 (.pointer (some ⟨v.tb 0,0,none⟩)),.int .u64 off] 147) (h0:J [] W) :
  CallsIn Fence.wide n prog 189 (#[.func (.yield l) #[] #[]] ++ #[.pointer (some ⟨bl,0,none⟩)]) W fun e W'=>(∃ v,e = .returned v)/\((∃ xs,xs=Th D.cur off 7/\J xs W')\/(∃ pre,pre <+: Th D.cur off 7/\Jx pre W')):=by
 have hm1:=meth_Load ⟨v.tb 0,0,none⟩;have hn1:=Nr ⟨v.tb 0,0,none⟩;have hm2:=meth_Err ⟨v.tb 0,0,none⟩
 have hl:=hb.hl;have hln:=hd.wf.le
 have HCK:=hid (fun wx (hx:IsDev wx v own D)=>hb.check hx);have HLH:=hid (fun wx (hx:IsDev wx v own D)=>hb.loadH hx);have HER:=hid (fun wx (hx:IsDev wx v own D)=>hb.err hx);have HUS:=hid (fun(wx:World) (s:Nat) (hs:s<7)=>hb.used (w:=wx) s hs);have HKA:=hid (fun(wx:World) (s:Nat) (hs:s<7)=>Vm (w:=wx) (v:=v) off s hs (by omega));have HLV:=hid (fun wx (hx:IsDev wx v own D) (s:Nat) (hs:s<7)=>hb.loadV hx s hs);have HLK:=hid (fun(wx:World) (hx:IsDev wx v own D) (s:Nat) (hs:s<7)=>(show Calls prog 290 #[.pointer (some ⟨v.tb 0,0,none⟩),.int .u64 (Qg off s:Nat)] wx fun r w'=>r = .returned (.int .u64 (bkK D.cur off s))/\wx=w' from by
  have h8:=hb.h8;have:=load_ok hx (j:=0) (by omega) (Qg off s) hb.of (by unfold Qg;omega) (by unfold Qg;omega);rw[show Qg off s/8=off/8+2+2*s by unfold Qg;omega]at this;exact this))
 have HKW:Hid (∀ s,s<7->Qg off s+8<18446744073709551616):=fun s hs=>by unfold Qg;omega
 have HS:=hid (fun s=>Aw D.cur off s);have HSE:Hid (∀ s,Qt9 D.cur off s=if Xf (bkH D.cur off) s then [(bkK D.cur off s,bkV D.cur off s)]else []):=fun s=>rfl
 have HPR:=hid (Qr7 D.cur off);have HJ:=hid hJ;have HY:=hid hY;have HO:=hid hob
 have A0:Hid (Qed bl v own D off (J []) W):=⟨hbl,hd,h0⟩;have HE0:Hid (Th D.cur off 0 = []):=rfl
 generalize Th D.cur off=es at *
 generalize bkH D.cur off=hdr at *
 generalize bkK D.cur off=kk at *
 generalize bkV D.cur off=vv at *
 clear hJ hY hob hd hb hbl h0;refine callsIn_of_wp func189 rfl trivial ?_ rfl
 simp only[ntmps189,List.size_toArray,List.length_cons,List.length_nil,Nat.reduceAdd,Nat.reduceSub,Array.replicate_succ,Array.replicate_zero,List.push_toArray,List.append_toArray,List.nil_append,List.cons_append]
 gi_wp2
 gi_loopw [6] (fun i wr=>∃ s:Nat,s<=7/\i = .int .i64 s/\Qed bl v own D off (J (es s)) wr) (fun i _=>7-(intOf i).toNat)
 case atStart=>exact⟨0,by omega,rfl,by rw[HE0.out];exact A0.out⟩
 case round=>
  obtain⟨s,hs,rfl,ha⟩:=hrel;have A1:=hid ha;have c0:=A1.out.box.cell (i:=0) (v:=.iface 40 (.pointer (some ⟨v.tb 0,0,none⟩))) rfl;have c1:=A1.out.box.cell (i:=1) (v:=.int .u64 off) rfl;clear ha A0
  by_cases hlt:s<7
  ·have hs1:(s:Int)<7:=by omega
   gi_wp2
   refine⟨trivial,?_⟩
   (with_reducible refine(callsIn_wide.2 (HCK.out _ A1.out.dev)).mono ?_)
   rintro r w1 ⟨rfl,b1⟩;have A2:=hid (A1.out.below HJ.out b1);clear b1 c0 c1 A1;have c0:=A2.out.box.cell (i:=0) (v:=.iface 40 (.pointer (some ⟨v.tb 0,0,none⟩))) rfl;have c1:=A2.out.box.cell (i:=1) (v:=.int .u64 off) rfl
   gi_wp2
   refine⟨trivial,?_⟩
   (with_reducible refine(callsIn_wide.2 (HLH.out _ A2.out.dev)).mono ?_)
   rintro r w' ⟨rfl,rfl⟩;have HU1:=hid (HUS.out w1 s hlt);have hse:=HSE.out s;have hsu:=HS.out s;obtain⟨ub,hub⟩:∃ b,Xf hdr s=b:=⟨_,rfl⟩;rw[hub]at HU1 hse
   gi_wp2
   refine⟨trivial,?_⟩
   (with_reducible refine(callsIn_wide.2 HU1.out).mono ?_)
   rintro r w' ⟨rfl,rfl⟩
   cases ub
   ·rw[hse]at hsu
    simp only[Bool.false_eq_true,if_false,List.append_nil]at hsu;have HSU:=hid hsu;clear hsu hse hub HU1
    gi_wp2
    go_roundw
    case rel=>exact⟨s+1,by omega,by go_num,by rw[HSU.out];exact A2.out⟩
    case measure=>simp[intOf];omega
   ·rw[hse]at hsu
    simp only[if_true]at hsu;have HSU:=hid hsu;have hlen:(es s).length<(es 7).length:=by
     have:=(HPR.out (s+1) (by omega)).length_le;rw[hsu,List.length_append]at this;simp at this;omega
    have HYY:=hid (fun wx hx=>HY.out (es s) (kk s,vv s) wx hx hlen);have HKA1:=hid (fun wx=>HKA.out wx s hlt);have HLV1:=hid (fun wx hx=>HLV.out wx hx s hlt);have HLK1:=hid (fun wx hx=>HLK.out wx hx s hlt);have hkw:=HKW.out s hlt;have hkw2:IntKind.u64.wrap ((Qg off s:Nat)+8:Int)=(Qg off s:Nat)+8:=IntWalk.u64_in _ (by omega)
    generalize Qg off s=bk at *
    clear hsu hse hub HU1 hlen HKA HLV HLK HUS HSE HS HKW c0 c1
    gi_wp2
    refine wpIn_wide.2 ?_
    have A4:=hid (A2.out.below HJ.out ((Below.refl _ _).drew));clear A2;refine wp_region_held (S:=(fun wx=>Qed bl v own D off (J (es s)) wx)) (by kernel_rfl) ?_
    change wpAnyH _ _ _ _ _ _ _ _ (World.drew _)
    refine tkH 0 (.pointer (some ⟨bl,0,none⟩)) rfl (fun w _=>by go_simp) A4.out ?_
    refine tkH 3 (.int .i64 s) rfl (fun w _=>by go_simp) A4.out ?_
    refine tkH 8 (.pointer (some ⟨bl,0,none⟩)) rfl (fun w _=>by go_simp) A4.out ?_
    refine tkH 11 (.int .i64 s) rfl (fun w _=>by go_simp) A4.out ?_
    refine tkH 1 (.iface 40 (.pointer (some ⟨v.tb 0,0,none⟩))) rfl (fun wx hx=>Xg 90 (.tmp 20) rfl ⟨bl,0,none⟩ rfl _ (hx.box.cell (i:=0) (v:=.iface 40 (.pointer (some ⟨v.tb 0,0,none⟩))) rfl) (Qg0 _)) A4.out ?_
    refine tkH 2 (.agg #[.iface 40 (.pointer (some ⟨v.tb 0,0,none⟩)),.int .u64 off]) rfl (fun wx hx=>Ym 147 (.tmp 1) rfl bl rfl 147 #[.iface 40 (.pointer (some ⟨v.tb 0,0,none⟩)),.int .u64 off] (0,0) _ hx.box underlying147 rfl Qhh) A4.out ?_
    refine tkH 9 (.iface 40 (.pointer (some ⟨v.tb 0,0,none⟩))) rfl (fun wx hx=>Xg 90 (.tmp 28) rfl ⟨bl,0,none⟩ rfl _ (hx.box.cell (i:=0) (v:=.iface 40 (.pointer (some ⟨v.tb 0,0,none⟩))) rfl) (Qg0 _)) A4.out ?_
    refine tkH 10 (.agg #[.iface 40 (.pointer (some ⟨v.tb 0,0,none⟩)),.int .u64 off]) rfl (fun wx hx=>Ym 147 (.tmp 1) rfl bl rfl 147 #[.iface 40 (.pointer (some ⟨v.tb 0,0,none⟩)),.int .u64 off] (0,0) _ hx.box underlying147 rfl Qhh) A4.out ?_
    refine tkH 5 (.iface 40 (.pointer (some ⟨v.tb 0,0,none⟩))) rfl (fun w _=>by go_simp) A4.out ?_
    refine tkH 6 (.iface 40 (.pointer (some ⟨v.tb 0,0,none⟩))) rfl (fun w _=>by go_simp) A4.out ?_
    refine tkH 14 (.iface 40 (.pointer (some ⟨v.tb 0,0,none⟩))) rfl (fun w _=>by go_simp) A4.out ?_
    refine tkH 15 (.iface 40 (.pointer (some ⟨v.tb 0,0,none⟩))) rfl (fun w _=>by go_simp) A4.out ?_
    refine onH 4 rfl (fun K hK => ?_);go_simp
    (with_reducible refine(HKA1.out _).mono ?_)
    rintro e w6 ⟨rfl,b6⟩;have A6:=hid (A4.out.below HJ.out b6);clear b6
    go_simp;refine hK _ _ ⟨A6.out,?_⟩;clear hK K
    refine onH 7 rfl (fun K hK => ?_);go_simp
    (with_reducible refine(HLK1.out _ A6.out.dev).mono ?_)
    rintro e w7 ⟨rfl,rfl⟩
    go_simp;refine hK _ _ ⟨A6.out,?_⟩;clear hK K
    refine onH 12 rfl (fun K hK => ?_);go_simp
    (with_reducible refine(HKA1.out _).mono ?_)
    rintro e w8 ⟨rfl,b8⟩;have A8:=hid (A6.out.below HJ.out b8);clear b8
    go_simp;refine hK _ _ ⟨A8.out,?_⟩;clear hK K
    refine onH 13 rfl (fun K hK => ?_);go_simp;refine hK _ _ ⟨A8.out,?_⟩;clear hK K
    refine onH 16 rfl (fun K hK => ?_);go_simp
    (with_reducible refine(HLV1.out _ A8.out.dev).mono ?_)
    rintro e w9 ⟨rfl,rfl⟩
    go_simp;refine hK _ _ ⟨A8.out,?_⟩;clear hK K
    refine onH 17 rfl (fun K hK => ?_);go_simp;refine hK _ _ ⟨A8.out,?_⟩;clear hK K
    refine onH 18 rfl (fun K hK => ?_);go_simp;refine hK _ _ ⟨A8.out,?_⟩;clear hK K
    refine wpAnyH_done (by kernel_rfl) ?_ _
    clear A4 A6;have c0:=A8.out.box.cell (i:=0) (v:=.iface 40 (.pointer (some ⟨v.tb 0,0,none⟩))) rfl
    gi_wp2
    refine⟨trivial,?_⟩
    (with_reducible refine(callsIn_wide.2 (HER.out _ A8.out.dev)).mono ?_)
    rintro r w' ⟨rfl,rfl⟩;obtain⟨fn,tmps,assign,body,hy,hR⟩:=HYY.out _ A8.out.j;have HRR:=hid hR
    dsimp only[Q4i]at hy
    clear hR
    gi_wp2
    refine HRR.out.mono ?_
    rintro e W3 (⟨rfl,hJ3,hk3⟩ | ⟨rfl,hJx3⟩)
    ·have A9:Hid (Qed bl v own D off (J (es (s+1))) W3):=⟨hk3.blk A8.out.box (by decide) (by decide),A8.out.dev.kept hk3.1 (fun k hk=>hk3.2.1 k (HO.out k hk)),by rw[HSU.out];exact hJ3⟩
     clear hk3 hJ3 HRR hy c0
     gi_wp2
     go_roundw
     case rel=>exact⟨s+1,by omega,by go_num,A9.out⟩
     case measure=>simp[intOf];omega
    ·have H6:=hid hJx3
     clear hJx3 HRR hy c0
     gi_wp2
     refine bodyPost_ret (results_none rfl _ _ _) rfl ?_
     exact⟨⟨_,rfl⟩,.inr ⟨_,by rw[<- HSU.out];exact HPR.out (s+1) (by omega),H6.out⟩⟩
  ·obtain rfl:s=7:=by omega
   gi_wp2
   go_end0
   exact⟨⟨_,rfl⟩,.inl ⟨_,rfl,A1.out.j⟩⟩
end
end
end Go.Proofs.YtlhchkajjpefmaaGreatDoor
