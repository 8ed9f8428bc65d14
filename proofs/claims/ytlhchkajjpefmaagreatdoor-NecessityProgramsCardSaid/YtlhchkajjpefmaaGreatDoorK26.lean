/- Lemmas and walks, part 26: each theorem says what it proves; no condition beside its own. -/
import Derived.Test.YtlhchkajjpefmaaGreatDoorK25
set_option maxHeartbeats 16000000
set_option maxRecDepth 100000
namespace Go.Proofs.YtlhchkajjpefmaaGreatDoor
open Lib(hid)
open Go.RowKit Go.Proofs.Tryz
section
def Sx(p:Nat):Nat:=p%4294967296*8
def Ez(p:Nat):Nat:=p/4294967296%65536
def Fc(p:Nat):Nat:=p/281474976710656%256
def Um(p:Nat):Bool:=decide (p/72057594037927936=0/\Sx p≠0/\Ez p≠0/\Fc p≠0/\Fc p<=127)
def Ag(p size:Nat):Bool:=Um p&&decide (Sx p<size)
theorem Qkc(p sz:Nat):Ag p sz=Qyc p sz:=by
 unfold Ag Um Qyc Sx Ez Fc;rw[Bool.eq_iff_iff];simp only[Bool.and_eq_true,decide_eq_true_eq];omega
section
variable{w:World}
theorem Hh(p:Nat)(_hp:p<18446744073709551616):Calls prog 214 #[.int .u64 p] w fun r w'=>r = .returned (.int .u64 (Sx p))/\w=w':=by
 go_enter func214,ntmps214
 go_wp2
 go_ret
 exact⟨Xm (by unfold Sx;omega),rfl⟩
theorem Qw9(p:Nat)(_hp:p<18446744073709551616):Calls prog 249 #[.int .u64 p] w fun r w'=>r = .returned (.int .u16 (Ez p))/\w=w':=by
 go_enter func249,ntmps249
 go_wp2
 go_ret
 refine⟨Xm ?_,rfl⟩
 unfold Ez
 first | omega | (rw[IntKind.wrap_u16];omega)
theorem Qs0(p:Nat)(_hp:p<18446744073709551616):Calls prog 250 #[.int .u64 p] w fun r w'=>r = .returned (.int .u8 (Fc p))/\w=w':=by
 go_enter func250,ntmps250
 go_wp2
 go_ret
 refine⟨Xm ?_,rfl⟩
 unfold Fc
 first | omega | (rw[IntKind.wrap_u8'];omega)
theorem Qi6(p:Nat)(hp:p<18446744073709551616):Calls prog 228 #[.int .u64 p] w fun r w'=>r = .returned (.bool (Um p))/\w=w':=by
 have HO:=hid (Hh (w:=w) p hp);have HG:=hid (Qw9 (w:=w) p hp);have HK:=hid (Qs0 (w:=w) p hp)
 obtain⟨t,ht⟩:∃ t,t=p/72057594037927936:=⟨_,rfl⟩;have hsh:((p:Int)/72057594037927936)=(t:Int):=by omega
 have key:∀ b:Bool,(b=true↔(t=0/\Sx p≠0/\Ez p≠0/\Fc p≠0/\Fc p<=127))->b=Um p:=by
  intro b hb;unfold Um;rw[<- ht,Bool.eq_iff_iff,hb,decide_eq_true_iff]
 have KEY:=hid key;clear key ht
 generalize Sx p=o at *
 generalize Ez p=g at *
 generalize Fc p=k at *
 by_cases h1:t=0
 ·have b1:((t:Int)==0)=true:=by simp;omega
  by_cases h2:o=0
  ·have b2:((o:Int) != 0)=false:=by simp;omega
   go_enter func228,ntmps228
   go_wp2_with (first | (go_at_call 214;(with_reducible refine HO.out.mono ?_);rintro e w' ⟨rfl,rfl⟩))
   go_ret
   exact⟨Qx (KEY.out _ (by simp[h2])),rfl⟩
  ·have b2:((o:Int) != 0)=true:=by simp;omega
   by_cases h3:g=0
   ·have b3:((g:Int) != 0)=false:=by simp;omega
    go_enter func228,ntmps228
    go_wp2_with (first | (go_at_call 214;(with_reducible refine HO.out.mono ?_);rintro e w' ⟨rfl,rfl⟩) | (go_at_call 249;(with_reducible refine HG.out.mono ?_);rintro e w' ⟨rfl,rfl⟩))
    go_ret
    exact⟨Qx (KEY.out _ (by simp[h3])),rfl⟩
   ·have b3:((g:Int) != 0)=true:=by simp;omega
    by_cases h4:k=0
    ·have b4:((k:Int) != 0)=false:=by simp;omega
     go_enter func228,ntmps228
     go_wp2_with (first | (go_at_call 214;(with_reducible refine HO.out.mono ?_);rintro e w' ⟨rfl,rfl⟩) | (go_at_call 249;(with_reducible refine HG.out.mono ?_);rintro e w' ⟨rfl,rfl⟩) | (go_at_call 250;(with_reducible refine HK.out.mono ?_);rintro e w' ⟨rfl,rfl⟩))
     go_ret
     exact⟨Qx (KEY.out _ (by simp[h4])),rfl⟩
    ·have b4:((k:Int) != 0)=true:=by simp;omega
     go_enter func228,ntmps228
     go_wp2_with (first | (go_at_call 214;(with_reducible refine HO.out.mono ?_);rintro e w' ⟨rfl,rfl⟩) | (go_at_call 249;(with_reducible refine HG.out.mono ?_);rintro e w' ⟨rfl,rfl⟩) | (go_at_call 250;(with_reducible refine HK.out.mono ?_);rintro e w' ⟨rfl,rfl⟩))
     go_ret
     exact⟨Qx (KEY.out _ (by simp[h1,h2,h3,h4];omega)),rfl⟩
 ·have b1:((t:Int)==0)=false:=by simp;omega
  go_enter func228,ntmps228
  go_wp2_with fail
  go_ret
  exact⟨Qx (KEY.out _ (by simp[h1])),rfl⟩
theorem Qdi(p size:Nat)(hp:p<18446744073709551616):Calls prog 205 #[.int .u64 p,.int .u64 size] w fun r w'=>r = .returned (.bool (Ag p size))/\w=w':=by
 have HO:=hid (Hh (w:=w) p hp);have HF:=hid (Qi6 (w:=w) p hp)
 have Hv:Hid (Ag p size=(Um p&&decide (Sx p<size))):=rfl
 generalize Um p=b at *
 generalize Sx p=o at *
 cases b
 ·go_enter func205,ntmps205
  go_wp2_with (first | (go_at_call 228;(with_reducible refine HF.out.mono ?_);rintro e w' ⟨rfl,rfl⟩))
  go_ret
  exact⟨Qx (by rw[Hv.out];rfl),rfl⟩
 ·go_enter func205,ntmps205
  go_wp2_with (first | (go_at_call 228;(with_reducible refine HF.out.mono ?_);rintro e w' ⟨rfl,rfl⟩) | (go_at_call 214;(with_reducible refine HO.out.mono ?_);rintro e w' ⟨rfl,rfl⟩))
  go_ret
  exact⟨Qx (by rw[Hv.out];rfl),rfl⟩
end
end
section
open Go.Maps
attribute [local go_sem ↓] Go.wp_at_zero Go.wp_at_succ
def Qcl(o x0 x1 p tg:Nat):List (Nat×Int) := [(o,(x0:Nat)),(o+8,(x1:Nat)),(o+16,(p:Nat)),(o+24,(tg:Nat))]
theorem Qmy{wx:World}{g h:Nat}{x0 x1:Nat}(hg:Blk wx g #[.int .u64 0,.int .u64 0,.int .u64 0,.int .u64 0] 230)(hh:Blk wx h #[.int .u64 x0,.int .u64 x1] 306) :
  ∃ wy,(∀ ty,(Builtin.copy_ #[56,56] ty #[.slice (some ⟨g,0,none⟩) 4 4,.slice (some ⟨h,0,none⟩) 2 2]).run prog wx = .ok (goInt 2) wy) /\
   Blk wy g #[.int .u64 x0,.int .u64 x1,.int .u64 0,.int .u64 0] 230/\(∀ B w0,B<=g->Below B w0 wx->Below B w0 wy):=by
 have hr:=fun ty=>run_copy_row (P:=prog) wx 56 56 ty 31 g 0 4 4 ⟨h,0,none⟩ 2 2 #[.int .u64 0,.int .u64 0,.int .u64 0,.int .u64 0] 230 [.int .u64 x0,.int .u64 x1] underlying56 Qh4 hg rfl
  (fun j u hj=>by
   rw[Addr.add_lit]
   rcases j with _ | _ | j
   ·cases hj;exact hh.cell rfl
   ·cases hj;exact hh.cell rfl
   ·cases hj) (by simp) (fun u hu=>by simp at hu;rcases hu with rfl | rfl <;> rfl)
 exact⟨_,fun ty=>hr ty,setRow_heap wx g _ _ 230 (0,0) hg,fun B w0 hB hb=>below_setRow hb hB _⟩
theorem Q9v(x0 x1 p tg k:Nat)(hk:k<4)(wx:World):(Instr.index 230 (.agg #[.int .u64 x0,.int .u64 x1,.int .u64 p,.int .u64 tg]) (.int .i64 (k:Nat))).run prog wx = .ok (.int .u64 (([x0,x1,p,tg].getD k 0:Nat):Int)) wx:=by
 obtain rfl | rfl | rfl | rfl:k=0\/k=1\/k=2\/k=3:=by omega
 all_goals kernel_rfl
section
variable{w wx:World}{v:DV}{own:Nat->Option Qp}{D:Dev}{j b off:Nat}{W:Nat->Nat}
structure FlB(w:World)(A:Array Value)(wx:World):Prop where
 res:Blk wx w.heap.size A 230
 bel:Below w.heap.size w wx
theorem FlB.next{A:Array Value}{wy:World}(h:FlB w A wx)(hb:Below wx.heap.size wx wy):FlB w A wy:=⟨h.res.below hb,h.bel.trans (hb.mono h.bel.size)⟩
theorem FlB.set{A:Array Value}(h:FlB w A wx)(k:Nat)(u:Value):FlB w (A.setIfInBounds k u) (wx.setCell ⟨w.heap.size,k,none⟩ u):=⟨h.res.set k u,h.bel.setCell (Nat.le_refl _) u⟩
theorem Qkm(h:DOn w v own D j b off W)(hN:Nib w)(e:Nat)(he:e<16)(s:ByteArray)(hs1:1<=s.toList.length)(hs2:s.toList.length<=16)(p:Nat)(_hp:p<18446744073709551616) :
  Calls prog 207 #[.pointer (some ⟨b,0,none⟩),.int .i64 e,.string s,.int .u64 p] w fun r w'=>∃ ov,r = .returned ov/\Acc w w.heap.size w' 140 2 ov 4 (Qv (Qcl (off+32*e) (pk0 s.toList) (pk1 s.toList) p (Qgs (pk0 s.toList) (pk1 s.toList)))):=by
 obtain⟨i0,hi0,hz0,hz1,hz2⟩:=info_parts Xe;have I:=hid (And.intro hi0 (And.intro hz0 (And.intro hz1 hz2)));clear hi0 hz0 hz1 hz2
 have H:=hid h;have HNB:=hid hN
 have HPK:=hid (fun(wx:World)=>Qkq (w:=wx) s hs1 hs2);have l0:=Qvb s.toList;have l1:=Qvc s.toList
 generalize hx0:pk0 s.toList=x0 at *
 generalize hx1:pk1 s.toList=x1 at *
 have htg:=fun(wx:World) (hx:Nib wx)=>Qdt (w:=wx) hx x0 x1 p 0 l0 l1
 rw[show((0:Nat):Int)=0 from rfl]at htg;have HTG:=hid htg;have ltg:=Qbm x0 x1
 generalize Qgs x0 x1=tg at *
 have HIX:=hid (fun(k:Nat) (hk:k<4) (wx:World)=>Q9v x0 x1 p tg k hk wx);have hoe:=h.le;have HAT:=hid (fun(wx:World) (hx:DOn wx v own D j b off W) (k:Nat) (hk:k<4)=>hx.at' e k he hk);obtain⟨o,ho⟩:∃ o,off+32*e=o:=⟨_,rfl⟩;rw[ho]at HAT ⊢;have hol:o<=262144+512:=by omega
 have X0:Hid (FlB w #[.int .u64 0,.int .u64 0,.int .u64 0,.int .u64 0] (w.alloc (.cells #[.int .u64 0,.int .u64 0,.int .u64 0,.int .u64 0] 230))):=⟨Blk.new w _ _,Qa w _⟩;have HL:Hid (∀ k,k<4->Qv ((Qcl o x0 x1 p tg).take (k+1))=Qv ((Qcl o x0 x1 p tg).take k)++Qv [(o+8*k,(([x0,x1,p,tg].getD k 0:Nat):Int))]):=fun k hk=>by
  obtain rfl | rfl | rfl | rfl:k=0\/k=1\/k=2\/k=3:=by omega
  all_goals rfl
 clear h hN hx0 hx1 ho hoe hs1 hs2 htg
 go_enter func207,ntmps207
 go_wp2_with fail
 (with_reducible refine(HPK.out _).mono ?_)
 rintro r w1 ⟨rfl,b1⟩;have X1:=hid (X0.out.next b1);have X2:=hid (X1.out.next (Qa w1 (.cells #[.int .u64 x0,.int .u64 x1] 306)));have K2:=hid (Blk.new w1 #[.int .u64 x0,.int .u64 x1] 306);clear b1 X0 HPK;obtain⟨w3,hcp,k3,l3⟩:=Qmy (X2.out.res.drew) (K2.out.drew);have X3:Hid (FlB w #[.int .u64 x0,.int .u64 x1,.int .u64 0,.int .u64 0] w3):=⟨k3,l3 _ _ (Nat.le_refl _) X2.out.bel.drew⟩;clear k3 l3;go_wp2_with fail
 refine wp_region_held (S:=(fun wx=>Below w.heap.size w wx)) (by kernel_rfl) ?_
 change wpAnyH _ _ _ _ _ _ _ _ (World.drew _)
 refine tkH 0 (.slice (some ⟨w.heap.size,0,none⟩) 4 4) rfl (fun w _=>by go_simp) X2.out.bel.drew ?_
 refine tkH 1 (.slice (some ⟨w1.heap.size,0,none⟩) 2 2) rfl (fun w _=>by go_simp) X2.out.bel.drew ?_
 refine onH 2 rfl (fun K hK => ?_);go_simp;refine hK _ _ ⟨X3.out.bel,?_⟩;clear hK K
 refine wpAnyH_done (by kernel_rfl) ?_ _
 clear hcp X1 X2 K2;have z0:=X3.out.res.cell (i:=0) (v:=.int .u64 x0) rfl;have z1:=X3.out.res.cell (i:=1) (v:=.int .u64 x1) rfl;have z2:=X3.out.res.cell (i:=2) (v:=.int .u64 0) rfl;have z3:=X3.out.res.cell (i:=3) (v:=.int .u64 0) rfl
 have f2:=X3.out.res.frozen 2;have X4:Hid (FlB w #[.int .u64 x0,.int .u64 x1,.int .u64 p,.int .u64 0] (w3.setCell ⟨w.heap.size,2,none⟩ (.int .u64 p))):=X3.out.set 2 (.int .u64 p);clear X3;go_wp2_with fail
 (with_reducible refine(HTG.out _ (HNB.out.below X4.out.bel)).mono ?_)
 rintro r w4 ⟨rfl,b4⟩;have X5:=hid (X4.out.next b4);clear b4 X4 z0 z1 z2 z3 f2;have z0:=X5.out.res.cell (i:=0) (v:=.int .u64 x0) rfl;have z1:=X5.out.res.cell (i:=1) (v:=.int .u64 x1) rfl;have z2:=X5.out.res.cell (i:=2) (v:=.int .u64 p) rfl;have z3:=X5.out.res.cell (i:=3) (v:=.int .u64 0) rfl
 have f3:=X5.out.res.frozen 3;have B6:Hid (Below w.heap.size w (w4.setCell ⟨w.heap.size,3,none⟩ (.int .u64 tg))):=X5.out.bel.setCell (Nat.le_refl _) _;clear X5;go_wp2_with fail
 have A0:Hid (Acc w w.heap.size (w4.setCell ⟨w.heap.size,3,none⟩ (.int .u64 tg)) 140 2 (.slice none 0 0) 0 (Qv ((Qcl o x0 x1 p tg).take 0))):=Acc.nil _ _ _ _ _ B6.out B6.out.size
 go_loopw [11,12,13,25] (fun sv _ _ y wr=>∃ k:Nat,k<=4/\y = .int .i64 k/\Acc w w.heap.size wr 140 2 sv k (Qv ((Qcl o x0 x1 p tg).take k))) (fun _ _ _ y _=>4-(intOf y).toNat)
 case atStart=>exact⟨0,by omega,rfl,A0.out⟩
 case round=>
  clear A0 B6;obtain⟨k,hk,rfl,ha⟩:=hrel;obtain⟨qa,qc,rfl⟩:=ha.slice;have A:=hid ha;clear ha
  by_cases hlt:k<4
  ·have hk':(k:Int)<4:=by omega
   have hix:=fun wx=>HIX.out k hlt wx
   have HT:=hid (HL.out k hlt);obtain⟨x,hx⟩:∃ x,[x0,x1,p,tg].getD k 0=x:=⟨_,rfl⟩;rw[hx]at hix HT;have HA:=hid (fun wx hx=>HAT.out wx hx k hlt);obtain⟨q,hq⟩:∃ q,o+8*k=q:=⟨_,rfl⟩;rw[hq]at HT HA;clear hx hq;go_wp2_with fail
   (with_reducible refine(HA.out _ (H.out.next A.out.bel)).mono ?_)
   rintro r w' ⟨rfl,rfl⟩;go_wp2_with (at_builtin;refine Qc _ rfl _ _ 52 rfl 140 i0 _ 2 16 underlying52 I.out.1 I.out.2.1 I.out.2.2.1 I.out.2.2.2 rfl (by decide) _ k (Qv ((Qcl o x0 x1 p tg).take k)) rfl (by exact A.out.own.alloc _) _ 1 (Qv [(q,(x:Int))]) rfl (by exact Ql.newAt _ _ _ 2 1 _ (by simp) rfl) (Xp _) (by unfold maxLen;omega) (by omega) ?_)
   intro v1 w5 o1 g1 n1 m1;have A2:=hid (A.out.next (m:=1) (Qa wr _) o1 g1 n1 (by simp));clear o1 g1 n1 m1 A
   rw[<- HT.out]at A2;go_wp2_with fail
   go_roundw
   case rel=>exact⟨k+1,by omega,by go_num,A2.out⟩
   case measure=>simp[intOf];omega
  ·obtain rfl:k=4:=by omega
   go_wp2_with fail
   go_ret
   exact⟨_,rfl,A.out⟩
end
end

section
open Go.Maps
attribute [local go_sem ↓] Go.wp_at_zero Go.wp_at_succ
def wrO(off:Nat)(ws:List (Nat×Nat)):List (Nat×Int):=ws.map fun e=>(off+8*e.1,(e.2:Nat))
section
variable{w wx:World}{v:DV}{own:Nat->Option Qp}{D:Dev}{j b off:Nat}{W:Nat->Nat}
theorem Qlo(hb:Below w.heap.size w wx)(q:Nat)(x:Int):Acc w w.heap.size (wx.alloc (.cells #[.int .u64 q,.int .u64 x] 140)) 140 2 (.slice (some ⟨wx.heap.size,0,none⟩) 1 1) 1 (Qv [(q,x)]):=
 ⟨by have:=Qj.new wx #[.int .u64 q,.int .u64 x] 140 2 1 1 rfl (Nat.le_refl _) (by unfold maxLen;omega)
     simpa [Qv]using this,
  fun g hg=>by simp[Value.ownBlock]at hg;have:=hb.size;omega,hb.trans ((Qa wx _).mono hb.size),Nat.le_trans hb.size (by simp)⟩
structure AxB(w:World)(g:Nat)(A:Array Value)(wx:World):Prop where
 blk:Blk wx g A 231
 bel:Below w.heap.size w wx
theorem AxB.next{g:Nat}{A:Array Value}{wy:World}(h:AxB w g A wx)(hb:Below wx.heap.size wx wy):AxB w g A wy:=⟨h.blk.below hb,h.bel.trans (hb.mono h.bel.size)⟩
def Qbv(w:World)(W:Nat->Nat)(off:Nat)(l:List UInt8)(p sz:Nat)(r:Ending)(w':World):Prop:=
 (Ry W l p sz≠0/\r = .returned (.tuple #[.slice none 0 0,.int .i64 (Ry W l p sz:Nat)])/\Below w.heap.size w w') \/
 (Ry W l p sz=0/\∃ ov,r = .returned (.tuple #[ov,.int .i64 0])/\Acc w w.heap.size w' 140 2 ov (wrO off (wrE W l p)).length (Qv (wrO off (wrE W l p))))
theorem Qbv.bad{l:List UInt8}{p sz k:Nat}{r:Ending}{w':World}(he:Ry W l p sz=k)(hk:k≠0)(hr:r = .returned (.tuple #[.slice none 0 0,.int .i64 (k:Nat)]))(hb:Below w.heap.size w w'):Qbv w W off l p sz r w':=
 .inl ⟨by rw[he];exact hk,by rw[he];exact hr,hb⟩
theorem Qbv.good{l:List UInt8}{p sz:Nat}{r:Ending}{w':World}{n:Nat}{ws:List (Nat×Int)}{ov:Value}(he:Ry W l p sz=0)(hw:wrO off (wrE W l p)=ws)(hn:ws.length=n)(hr:r = .returned (.tuple #[ov,.int .i64 0]))(ha:Acc w w.heap.size w' 140 2 ov n (Qv ws)):Qbv w W off l p sz r w':=
 .inr ⟨he,ov,hr,by rw[hw,hn];exact ha⟩
theorem Qa6(h:DOn w v own D j b off W)(hN:Nib w)(s:ByteArray)(p:Nat)(hp:p<18446744073709551616) :
  Calls prog 153 #[.pointer (some ⟨b,0,none⟩),.string s,.int .u64 p] w (Qbv w W off s.toList p (64*D.n)):=by
 obtain⟨sz,hsz⟩:∃ sz,64*D.n=sz:=⟨_,rfl⟩;rw[hsz];have H:=hid h;have HNB:=hid hN
 have hms:=meth_Size ⟨v.tb j,0,none⟩;have hnm:=fun(wx:World)=>Nz (w:=wx) s
 have hnl:=fun(wx:World)=>Dt (w:=wx) p
 have hvl:=fun(wx:World)=>Qdi (w:=wx) p sz hp
 rw[Qkc]at hvl;have hszz:=fun(wx:World) (hx:IsDev wx v own D)=>thrSize_any hx h.hj
 rw[show((D.n:Int)*64)=((sz:Nat):Int)by omega]at hszz;have HSIZE:=hid hszz;have HF:=hid (fun wx=>Qkn (w:=wx) W h.wat.bd s);have HIA:=hid (Qaf W);have HSZ:Hid (64=(wsN W).size):=(Qbq W).symm
 have HOA2:Hid ((wsN W).all (·.oneCell')=true):=Cs _;have HLD:=hid (fun wx (hx:DOn wx v own D j b off W)=>hx.load);have HIX:=hid (fun(e:Nat) (he:e<16) (wx:World)=>Qso W e he wx);have HAT:=hid (fun(wx:World) (hx:DOn wx v own D j b off W) (e k:Nat) (he:e<16) (hk:k<4)=>hx.at' e k he hk);have HFL:=hid (fun(wx:World) (hx:DOn wx v own D j b off W) (hn:Nib wx) (e:Nat) (he:e<16) h1 h2=>Qkm hx hn e he s h1 h2 p hp);have hob:=h.le;have hbs:b<w.heap.size:=h.dir.blk.lt;have HE:Hid (Ry W s.toList p sz=if Vt s.toList=false then 15 else if p≠0/\Qyc p sz=false then 1 else if p=0 then(if Jr W s.toList<16 then 0 else 5)else if Jr W s.toList<16 then 0 else if Qaa W<16 then 0 else 4):=rfl;have HV:Hid ((Jr W s.toList<16/\Qw8 W s.toList=(Jr W s.toList:Nat))\/(Jr W s.toList=16/\Qw8 W s.toList = -1)):=by
  unfold Qw8;have:=Ax (fun e=>Yc W e&&Ws W e==s.toList) 16
  by_cases h:Jr W s.toList<16
  ·exact .inl ⟨h,if_pos h⟩
  ·exact .inr ⟨by unfold Jr at *;omega,if_neg h⟩
 have HW0:Hid (∀ i,Jr W s.toList=i->p=0->wrO off (wrE W s.toList p) = [(off+32*i+24,0)]):=fun i hi h0=>by
  unfold wrE;rw[if_pos h0,hi];simp only[wrO,List.map_cons,List.map_nil];rw[show off+8*(4*i+3)=off+32*i+24 by omega];rfl
 have HW1:Hid (∀ i,Jr W s.toList=i->i<16->p≠0->wrO off (wrE W s.toList p) = [(off+32*i+16,((p:Nat):Int))]):=fun i hi hlt h0=>by
  unfold wrE;rw[if_neg h0,hi,if_pos hlt];simp only[wrO,List.map_cons,List.map_nil];rw[show off+8*(4*i+2)=off+32*i+16 by omega]
 have HW2:Hid (∀ i,Jr W s.toList=16->Qaa W=i->p≠0->wrO off (wrE W s.toList p)=Qcl (off+32*i) (pk0 s.toList) (pk1 s.toList) p (Qgs (pk0 s.toList) (pk1 s.toList))):=fun i hi hf h0=>by
  unfold wrE;rw[if_neg h0,hi,if_neg (by omega),hf]
  simp only[wrO,Q4y,Qcl,List.map_cons,List.map_nil];rw[show off+8*(4*i)=off+32*i by omega,show off+8*(4*i+1)=off+32*i+8 by omega,show off+8*(4*i+2)=off+32*i+16 by omega,show off+8*(4*i+3)=off+32*i+24 by omega]
 have HUS:Hid (∀ e,(!Yc W e)=(W (4*e+3)==0)):=fun e=>by unfold Yc;cases h:W (4*e+3)==0 <;> simp_all
 have HFR1:Hid (∀ e,e<16->(!Yc W e)=true->Al (fun e => !Yc W e) e->Qaa W=e):=fun e he h1 h2=>Ni he h1 h2
 have HFR2:Hid (Al (fun e => !Yc W e) 16->Qaa W=16):=fun h=>Wj h
 obtain⟨er,her⟩:∃ er,Ry W s.toList p sz=er:=⟨_,rfl⟩;have HER:=hid her;rw[her]at HE;clear her hsz
 generalize Qw8 W s.toList=rv at *
 generalize hres:Jr W s.toList=res at *
 generalize wsN W=A at *
 clear h hN hszz hres;have c0:=H.out.dir.blk.cell (i:=0) (v:=.iface 40 (.pointer (some ⟨v.tb j,0,none⟩))) rfl
 cases hnb:Vt s.toList
 ·rw[hnb]at hnm
  have HNM:=hid hnm;have HE2:Hid (er=15):=by show _=_;rw[HE.out,if_pos hnb]
  go_enter func153,ntmps153
  go_wp2_with fail
  (with_reducible refine(H.out.has).mono ?_)
  rintro r w' ⟨rfl,rfl⟩;go_wp2_with fail
  (with_reducible refine(HNM.out _).mono ?_)
  rintro r w' ⟨rfl,rfl⟩;go_wp2_with fail
  go_ret2
  exact .bad (HER.out.trans HE2.out) (by decide) rfl (Below.refl _ _)
 ·rw[hnb]at hnm
  have HNM:=hid hnm;have hn1:¬ Vt s.toList=false:=by rw[hnb];simp
  have HNO:=hid (Qao hnb)
  by_cases h0:p=0
  ·have hq:(p==0)=true:=by simp[h0]
   rw[hq]at hnl;have HNL:=hid hnl;have HE2:Hid (er=if res<16 then 0 else 5):=by show _=_;rw[HE.out,if_neg hn1,if_neg (by simp[h0]),if_pos h0]
   have HW:=hid (fun i hi=>HW0.out i hi h0);clear h0 hq hn1 hvl hnl HE
   go_enter func153,ntmps153
   go_wp2_with fail
   (with_reducible refine(H.out.has).mono ?_)
   rintro r w' ⟨rfl,rfl⟩;go_wp2_with fail
   (with_reducible refine(HNM.out _).mono ?_)
   rintro r w' ⟨rfl,rfl⟩;go_wp2_with fail
   (with_reducible refine(HNL.out _).mono ?_)
   rintro r w' ⟨rfl,rfl⟩;go_wp2_with fail
   (with_reducible refine(HLD.out _ H.out).mono ?_)
   rintro r w1 ⟨rfl,b1⟩;have hbs1:b<w1.heap.size:=Nat.lt_of_lt_of_le hbs b1.size;have B1:=hid b1;clear b1 c0;go_wp2_with (first | (refine wpList_store_row rfl 231 (.tmp 8) (.tmp 34) rfl w1.heap.size A rfl rfl 231 _ (Blk.new w1 _ _) HIA.out HSZ.out HOA2.out ?_;obtain⟨w2,hw2,k2,b2⟩:=Mn w1 _ A;rw[hw2];have X2:Hid (AxB w w1.heap.size A w2):=⟨k2,B1.out.trans (b2.mono B1.out.size)⟩;clear hw2 k2 b2) | (refine wpList_load_row rfl 231 (.tmp 8) rfl w1.heap.size rfl 231 A (0,0) _ X2.out.blk underlying231 rfl HIA.out ?_))
   (with_reducible refine(HF.out _).mono ?_)
   rintro r w3 ⟨rfl,b3⟩;have X3:=hid (X2.out.next b3);clear b3 X2 HF HLD
   generalize w1.heap.size=g at *
   rcases HV.out with ⟨h1,rfl⟩ | ⟨rfl,rfl⟩
   ·have hn:¬ ((res:Nat):Int)<0:=by omega
    have HE3:Hid (er=0):=by show _=_;rw[HE2.out,if_pos h1]
    have hat:=HAT.out _ (H.out.next X3.out.bel) res 3 h1 (by omega);obtain⟨q,hq⟩:∃ q,off+32*res+8*3=q:=⟨_,rfl⟩;rw[hq,show((3:Nat):Int)=3 from rfl]at hat;have HAT2:=hid hat;have HQ:Hid (off+32*res+24=q):=hq;clear h1 hat hq HV HE2;go_wp2_with fail
    (with_reducible refine(HNL.out _).mono ?_)
    rintro r w' ⟨rfl,rfl⟩;go_wp2_with fail
    (with_reducible refine HAT2.out.mono ?_)
    rintro r w' ⟨rfl,rfl⟩;go_wp2_with fail
    go_ret2
    exact .good (HER.out.trans HE3.out) (HW.out _ rfl) rfl rfl (by rw[HQ.out];exact Qlo X3.out.bel q 0)
   ·have HE3:Hid (er=5):=by show _=_;rw[HE2.out,if_neg (by omega)]
    clear HV HE2;go_wp2_with fail
    (with_reducible refine(HNL.out _).mono ?_)
    rintro r w' ⟨rfl,rfl⟩;go_wp2_with fail
    go_ret2
    exact .bad (HER.out.trans HE3.out) (by decide) rfl X3.out.bel
  ·have hq:(p==0)=false:=by simp[h0]
   rw[hq]at hnl;have HNL:=hid hnl
   cases hpv:Qyc p sz
   ·rw[hpv]at hvl
    have HVL:=hid hvl;have HE2:Hid (er=1):=by show _=_;rw[HE.out,if_neg hn1,if_pos ⟨h0,hpv⟩]
    clear h0 hq hn1 hvl hnl hpv HE
    go_enter func153,ntmps153
    go_wp2_with fail
    (with_reducible refine(H.out.has).mono ?_)
    rintro r w' ⟨rfl,rfl⟩;go_wp2_with fail
    (with_reducible refine(HNM.out _).mono ?_)
    rintro r w' ⟨rfl,rfl⟩;go_wp2_with fail
    (with_reducible refine(HNL.out _).mono ?_)
    rintro r w' ⟨rfl,rfl⟩;go_wp2_with fail
    (with_reducible refine(HSIZE.out _ H.out.dev).mono ?_)
    rintro r w' ⟨rfl,rfl⟩;go_wp2_with fail
    (with_reducible refine(HVL.out _).mono ?_)
    rintro r w' ⟨rfl,rfl⟩;go_wp2_with fail
    go_ret2
    exact .bad (HER.out.trans HE2.out) (by decide) rfl (Below.refl _ _)
   ·rw[hpv]at hvl
    have HVL:=hid hvl;have HE2:Hid (er=if res<16 then 0 else if Qaa W<16 then 0 else 4):=by show _=_;rw[HE.out,if_neg hn1,if_neg (by rw[hpv];simp),if_neg h0]
    have HW:=hid (fun i hi hlt=>HW1.out i hi hlt h0);have HWF:=hid (fun i hi hf=>HW2.out i hi hf h0);clear h0 hq hn1 hvl hnl hpv HE HW0 HW1 HW2
    go_enter func153,ntmps153
    go_wp2_with fail
    (with_reducible refine(H.out.has).mono ?_)
    rintro r w' ⟨rfl,rfl⟩;go_wp2_with fail
    (with_reducible refine(HNM.out _).mono ?_)
    rintro r w' ⟨rfl,rfl⟩;go_wp2_with fail
    (with_reducible refine(HNL.out _).mono ?_)
    rintro r w' ⟨rfl,rfl⟩;go_wp2_with fail
    (with_reducible refine(HSIZE.out _ H.out.dev).mono ?_)
    rintro r w' ⟨rfl,rfl⟩;go_wp2_with fail
    (with_reducible refine(HVL.out _).mono ?_)
    rintro r w' ⟨rfl,rfl⟩;go_wp2_with fail
    (with_reducible refine(HLD.out _ H.out).mono ?_)
    rintro r w1 ⟨rfl,b1⟩;have hbs1:b<w1.heap.size:=Nat.lt_of_lt_of_le hbs b1.size;have B1:=hid b1;clear b1 c0;go_wp2_with (first | (refine wpList_store_row rfl 231 (.tmp 8) (.tmp 34) rfl w1.heap.size A rfl rfl 231 _ (Blk.new w1 _ _) HIA.out HSZ.out HOA2.out ?_;obtain⟨w2,hw2,k2,b2⟩:=Mn w1 _ A;rw[hw2];have X2:Hid (AxB w w1.heap.size A w2):=⟨k2,B1.out.trans (b2.mono B1.out.size)⟩;clear hw2 k2 b2) | (refine wpList_load_row rfl 231 (.tmp 8) rfl w1.heap.size rfl 231 A (0,0) _ X2.out.blk underlying231 rfl HIA.out ?_))
    (with_reducible refine(HF.out _).mono ?_)
    rintro r w3 ⟨rfl,b3⟩;have X3:=hid (X2.out.next b3);clear b3 X2 HF HLD
    generalize w1.heap.size=g at *
    rcases HV.out with ⟨h1,rfl⟩ | ⟨rfl,rfl⟩
    ·have hn:¬ ((res:Nat):Int)<0:=by omega
     have hn2:((res:Nat):Int)>=0:=by omega
     have HE3:Hid (er=0):=by show _=_;rw[HE2.out,if_pos h1]
     have hat:=HAT.out _ (H.out.next X3.out.bel) res 2 h1 (by omega);obtain⟨q,hq⟩:∃ q,off+32*res+8*2=q:=⟨_,rfl⟩;rw[hq,show((2:Nat):Int)=2 from rfl]at hat;have HAT2:=hid hat;have HQ:Hid (off+32*res+16=q):=hq;have HW3:=hid (HW.out _ rfl h1);clear h1 hat hq HV HE2 HW;go_wp2_with fail
     (with_reducible refine(HNL.out _).mono ?_)
     rintro r w' ⟨rfl,rfl⟩;go_wp2_with fail
     (with_reducible refine HAT2.out.mono ?_)
     rintro r w' ⟨rfl,rfl⟩;go_wp2_with fail
     go_ret2
     exact .good (HER.out.trans HE3.out) HW3.out rfl rfl (by rw[HQ.out];exact Qlo X3.out.bel q p)
    ·have HE3:Hid (er=if Qaa W<16 then 0 else 4):=by show _=_;rw[HE2.out,if_neg (by omega)]
     clear HV HE2;go_wp2_with fail
     (with_reducible refine(HNL.out _).mono ?_)
     rintro r w' ⟨rfl,rfl⟩;go_wp2_with fail
     (with_reducible refine(HNL.out _).mono ?_)
     rintro r w' ⟨rfl,rfl⟩;go_wp2_with (refine wpList_load_row rfl 231 (.tmp 8) rfl g rfl 231 A (0,0) _ X3.out.blk underlying231 rfl HIA.out ?_)
     go_loopw [11,12,67] (fun _ _ y wr=>∃ e:Nat,e<=16/\y = .int .i64 e/\AxB w g A wr/\Al (fun e => !Yc W e) e) (fun _ _ y _=>16-(intOf y).toNat)
     case atStart=>exact⟨0,by omega,rfl,X3.out,fun j hj=>by omega⟩
     case round=>
      clear X3;obtain⟨e,he,rfl,hx,hno⟩:=hrel;have X:=hid hx;have NO:=hid hno
      clear hx hno
      by_cases hlt:e<16
      ·have he':(e:Int)<16:=by omega
       have hix:=fun wx=>HIX.out e hlt wx
       have hu:=HUS.out e;obtain⟨x0,hx0⟩:∃ x,W (4*e)=x:=⟨_,rfl⟩;obtain⟨x1,hx1⟩:∃ x,W (4*e+1)=x:=⟨_,rfl⟩;obtain⟨x2,hx2⟩:∃ x,W (4*e+2)=x:=⟨_,rfl⟩;obtain⟨x3,hx3⟩:∃ x,W (4*e+3)=x:=⟨_,rfl⟩;rw[hx0,hx1,hx2,hx3]at hix;rw[hx3]at hu;have X1:=hid (X.out.next (Qa wr (.cells #[.int .u64 x0,.int .u64 x1,.int .u64 x2,.int .u64 x3] 230)));have HU:=hid hu;clear hx0 hx1 hx2 hx3 hu
       by_cases h3:x3=0
       ·have hb3:((x3:Int)==0)=true:=by simp;omega
        have HF3:Hid (Qaa W=e):=HFR1.out e hlt (by rw[HU.out];simp[h3]) NO.out;have HFC:=hid (fun wx hx hn=>HFL.out wx hx hn e hlt HNO.out.pos HNO.out.le);clear h3;go_wp2_with fail
        (with_reducible refine(HFC.out _ (H.out.next X1.out.bel) (HNB.out.below X1.out.bel)).mono ?_)
        rintro r w5 ⟨ov,rfl,ha⟩;obtain⟨oa,oc,rfl⟩:=ha.slice;have HA5:=hid (ha.deeper X1.out.bel);clear ha;go_wp2_with fail
        go_ret2
        exact .good (by rw[HER.out,HE3.out,HF3.out,if_pos hlt]) (HWF.out e trivial HF3.out) rfl rfl HA5.out
       ·have hb3:((x3:Int)==0)=false:=by simp;omega
        have NO2:Hid (Al (fun e => !Yc W e) (e+1)):=fun j hj=>by
         by_cases ej:j=e
         ·subst ej;show(!Yc W j)=false;rw[HU.out];simp[h3]
         ·exact NO.out j (by omega)
        clear h3;go_wp2_with fail
        go_roundw
        case rel=>exact⟨e+1,by omega,by go_num,X1.out,NO2.out⟩
        case measure=>simp[intOf];omega
      ·obtain rfl:e=16:=by omega
       have HE4:Hid (er=4):=by show _=_;rw[HE3.out,HFR2.out NO.out,if_neg (by omega)]
       go_wp2_with fail
       go_ret2
       exact .bad (HER.out.trans HE4.out) (by decide) rfl X.out.bel
end
end

section
open Go.Maps
attribute [local go_sem ↓] Go.wp_at_zero Go.wp_at_succ
def Yt(off:Nat)(W:Nat->Nat)(l:List UInt8)(p:Nat):List (Nat×Nat×Int):=Qe (wrO off (wrE W l p))
theorem Qqt(off:Nat)(ws:List (Nat×Nat)):(wrO off ws).length=ws.length:=by simp[wrO]
theorem Qqs(W:Nat->Nat)(l:List UInt8)(p:Nat):(wrE W l p).length<=4:=by
 unfold wrE Q4y;split
 ·simp
 ·split <;> simp
theorem Qqr(W:Nat->Nat)(l:List UInt8)(p sz:Nat)(h:Ry W l p sz=0)(hp:p<18446744073709551616):∀ e∈wrE W l p,e.1<64/\e.2<18446744073709551616:=by
 intro e he;unfold Ry at h;have l0:=Qvb l;have l1:=Qvc l;have lt:=Qbm (pk0 l) (pk1 l)
 unfold wrE Q4y at he
 by_cases hp0:p=0
 ·rw[if_pos hp0]at he
  simp only[List.mem_singleton]at he;subst he;simp only[hp0,if_true]at h
  split at h
  ·omega
  ·split at h
   ·omega
   ·split at h
    ·simp only;omega
    ·omega
 ·rw[if_neg hp0]at he
  simp only[if_neg hp0]at h
  split at h
  ·omega
  ·split at h
   ·omega
   ·split at h
    ·rename_i hf
     rw[if_pos hf]at he;simp only[List.mem_singleton]at he;subst he;simp only;omega
    ·rename_i hf
     rw[if_neg hf]at he
     split at h
     ·rename_i hfr
      simp only[List.mem_cons,List.not_mem_nil,or_false]at he
      rcases he with rfl | rfl | rfl | rfl <;> simp only <;> omega
     ·omega
section
variable{w wx:World}{v:DV}{own:Nat->Option Qp}{D:Dev}{j b off:Nat}{W:Nat->Nat}
def Q5w(w:World)(W:Nat->Nat)(off:Nat)(l:List UInt8)(p sz:Nat)(r:Ending)(w':World):Prop:=
 (Ry W l p sz≠0/\r = .returned (.tuple #[.slice none 0 0,.int .i64 (Ry W l p sz:Nat)])/\Below w.heap.size w w') \/
 (Ry W l p sz=0/\∃ ov,r = .returned (.tuple #[ov,.int .i64 0])/\Acc w w.heap.size w' 73 3 ov (Yt off W l p).length (Qd (Yt off W l p)))
theorem La(h:DOn w v own D j b off W)(hN:Nib w)(s:ByteArray)(p:Nat)(hp:p<18446744073709551616) :
  Calls prog 63 #[.pointer (some ⟨b,0,none⟩),.string s,.int .u64 p] w (Q5w w W off s.toList p (64*D.n)):=by
 have HA:=hid (Qa6 h hN s p hp);have hin:=fun he=>Qqr W s.toList p (64*D.n) he hp
 have hln:=Qqs W s.toList p;have hob:=h.le;have HST:=hid (fun(wx:World) sv (he:Ry W s.toList p (64*D.n)=0) hr=>Xd (w:=wx) sv (wrO off (wrE W s.toList p)) hr (by rw[Qqt];omega) (fun e hm=>by
  unfold wrO at hm;obtain⟨x,hx,rfl⟩:=List.mem_map.1 hm;have:=hin he x hx;show off+8*x.1<_
  omega))
 have HPD:Hid (Qe (wrO off (wrE W s.toList p))=Yt off W s.toList p):=rfl;rw[HPD.out]at HST;clear h hN hin
 go_enter func63,ntmps63
 go_wp2_with fail
 (with_reducible refine HA.out.mono ?_)
 rintro r w1 (⟨he,rfl,b1⟩ | ⟨he,ov,rfl,ha⟩)
 ·have HE:=hid (And.intro he b1)
  obtain⟨er,her⟩:∃ er,Ry W s.toList p (64*D.n)=er:=⟨_,rfl⟩;have HER:=hid her;rw[her]at he ⊢;have hq:((er:Nat):Int)≠0:=by omega
  have hq2:(((er:Nat):Int) != 0)=true:=by simpa using he
  clear her he b1 hq;go_wp2_with fail
  go_ret2
  exact .inl ⟨HE.out.1,by rw[HER.out];rfl,HE.out.2⟩
 ·have HST2:=hid (HST.out _ _ he ha.rd)
  have HE:=hid (And.intro he ha.bel);obtain⟨oa,oc,rfl⟩:=ha.slice;clear he ha;go_wp2_with fail
  (with_reducible refine HST2.out.mono ?_)
  rintro r w2 ⟨pv,rfl,hp2⟩;obtain⟨pa,pc,rfl⟩:=hp2.slice;have HP2:=hid (hp2.deeper HE.out.2);clear hp2;go_wp2_with fail
  go_ret2
  exact .inr ⟨HE.out.1,_,rfl,HP2.out⟩
def Q8f(w:World)(v:DV)(own:Nat->Option Qp)(D:Dev)(j:Nat)(P:List (Nat×Nat×Int))(er:Nat)(r:Ending)(w':World):Prop:=
 (er≠0/\r = .returned (.int .i64 (er:Nat))/\Below w.heap.size w w')\/(er=0/\r = .returned (.int .i64 ((D.run j P).err j))/\Qr v own w (D.run j P) w')
theorem Qdh(off:Nat)(W:Nat->Nat)(l:List UInt8)(p:Nat):(Yt off W l p).length<=9:=by
 have:=Zx (wrO off (wrE W l p));rw[Qqt]at this;have:=Qqs W l p;unfold Yt;omega
theorem Qtu{sz:Nat}(off:Nat)(W:Nat->Nat)(l:List UInt8)(p:Nat)(hob:off<=262144)(he:Ry W l p sz=0)(hp:p<18446744073709551616):Qz (Yt off W l p):=
 Tc _ fun e hm=>by
  unfold wrO at hm;obtain⟨x,hx,rfl⟩:=List.mem_map.1 hm;have:=Qqr W l p sz he hp x hx;show off+8*x.1<_
  omega
theorem Qpu(h:DOn w v own D j b off W)(hN:Nib w)(s:ByteArray)(p:Nat)(hp:p<18446744073709551616)(hx:D.exec+100000<4294967296) :
  Calls prog 185 #[.pointer (some ⟨b,0,none⟩),.string s,.int .u64 p] w (Q8f w v own D j (Yt off W s.toList p) (Ry W s.toList p (64*D.n))):=by
 have HA:=hid (La h hN s p hp);have H:=hid h;have HR:=hid (fun(wb:World) (pv:Value) (he:Ry W s.toList p (64*D.n)=0) (ha:Acc w w.heap.size wb 73 3 pv (Yt off W s.toList p).length (Qd (Yt off W s.toList p)))=>
  Le h.dev h.hj ha (Qtu off W s.toList p h.le he hp) (by have:=Qdh off W s.toList p;omega) hx)
 clear h hN
 go_enter func185,ntmps185
 go_wp2_with fail
 (with_reducible refine HA.out.mono ?_)
 rintro r w1 (⟨he,rfl,b1⟩ | ⟨he,ov,rfl,ha⟩)
 ·have HE:=hid (And.intro he b1)
  obtain⟨er,her⟩:∃ er,Ry W s.toList p (64*D.n)=er:=⟨_,rfl⟩;have HER:=hid her;rw[her]at he ⊢;have hq2:(((er:Nat):Int) != 0)=true:=by simpa using he
  clear her he b1;go_wp2_with fail
  go_ret
  exact .inl ⟨HE.out.1,by rw[HER.out];rfl,HE.out.2⟩
 ·have HR2:=hid (HR.out _ _ he ha)
  have HE:=hid he;have c0:=(H.out.dir.next ha.bel).blk.cell (i:=0) (v:=.iface 40 (.pointer (some ⟨v.tb j,0,none⟩))) rfl;obtain⟨oa,oc,rfl⟩:=ha.slice;clear he ha;go_wp2_with fail
  (with_reducible refine HR2.out.mono ?_)
  rintro r w2 ⟨rfl,p2⟩;have P2:=hid p2;clear p2
  go_wp2_with fail
  go_ret
  exact .inr ⟨HE.out,rfl,P2.out⟩
def Qch(W:Nat->Nat)(l:List UInt8)(p sz:Nat):Nat:=if Vt l=false then 15 else if p=0 then 1 else Ry W l p sz
theorem Qdr(h:DOn w v own D j b off W)(hN:Nib w)(s:ByteArray)(p:Nat)(hp:p<18446744073709551616)(hx:D.exec+100000<4294967296) :
  Calls prog 90 #[.pointer (some ⟨b,0,none⟩),.string s,.int .u64 p] w (Q8f w v own D j (Yt off W s.toList p) (Qch W s.toList p (64*D.n))):=by
 have H:=hid h;have HR:=hid (Qpu h hN s p hp hx);have hnm:=fun(wx:World)=>Nz (w:=wx) s
 have hnl:=fun(wx:World)=>Dt (w:=wx) p
 have HES:Hid (Qch W s.toList p (64*D.n)=if Vt s.toList=false then 15 else if p=0 then 1 else Ry W s.toList p (64*D.n)):=rfl;clear h hN
 cases hnb:Vt s.toList
 ·rw[hnb]at hnm
  have HNM:=hid hnm;have HE:Hid (Qch W s.toList p (64*D.n)=15):=by show _=_;rw[HES.out,if_pos hnb]
  go_enter func90,ntmps90
  go_wp2_with fail
  (with_reducible refine(H.out.has).mono ?_)
  rintro r w' ⟨rfl,rfl⟩;go_wp2_with fail
  (with_reducible refine(HNM.out _).mono ?_)
  rintro r w' ⟨rfl,rfl⟩;go_wp2_with fail
  go_ret
  exact .inl ⟨by rw[HE.out];decide,by rw[HE.out];rfl,Below.refl _ _⟩
 ·rw[hnb]at hnm
  have HNM:=hid hnm
  by_cases h0:p=0
  ·rw[show(p==0)=true by simp[h0]]at hnl
   have HNL:=hid hnl;have HE:Hid (Qch W s.toList p (64*D.n)=1):=by show _=_;rw[HES.out,if_neg (by rw[hnb];simp),if_pos h0]
   clear h0
   go_enter func90,ntmps90
   go_wp2_with fail
   (with_reducible refine(H.out.has).mono ?_)
   rintro r w' ⟨rfl,rfl⟩;go_wp2_with fail
   (with_reducible refine(HNM.out _).mono ?_)
   rintro r w' ⟨rfl,rfl⟩;go_wp2_with fail
   (with_reducible refine(HNL.out _).mono ?_)
   rintro r w' ⟨rfl,rfl⟩;go_wp2_with fail
   go_ret
   exact .inl ⟨by rw[HE.out];decide,by rw[HE.out];rfl,Below.refl _ _⟩
  ·rw[show(p==0)=false by simp[h0]]at hnl
   have HNL:=hid hnl;have HE:Hid (Qch W s.toList p (64*D.n)=Ry W s.toList p (64*D.n)):=by show _=_;rw[HES.out,if_neg (by rw[hnb];simp),if_neg h0]
   clear h0
   go_enter func90,ntmps90
   go_wp2_with fail
   (with_reducible refine(H.out.has).mono ?_)
   rintro r w' ⟨rfl,rfl⟩;go_wp2_with fail
   (with_reducible refine(HNM.out _).mono ?_)
   rintro r w' ⟨rfl,rfl⟩;go_wp2_with fail
   (with_reducible refine(HNL.out _).mono ?_)
   rintro r w' ⟨rfl,rfl⟩;go_wp2_with fail
   (with_reducible refine HR.out.mono ?_)
   rintro r w1 (⟨he,rfl,b1⟩ | ⟨he,rfl,p1⟩)
   ·have HH:=hid (And.intro he b1)
    clear he b1;go_wp2_with fail
    go_ret
    exact .inl ⟨by rw[HE.out];exact HH.out.1,by rw[HE.out];rfl,HH.out.2⟩
   ·have HH:=hid (And.intro he p1)
    clear he p1;go_wp2_with fail
    go_ret
    exact .inr ⟨by rw[HE.out];exact HH.out.1,rfl,HH.out.2⟩
end
end

section
open Go.Maps
attribute [local go_sem ↓] Go.wp_at_zero Go.wp_at_succ
section
variable{w:World}
theorem Qa7(s:ByteArray)(p:Int):Calls prog 153 #[.pointer none,.string s,.int .u64 p] w fun r w'=>r = .returned (.tuple #[.slice none 0 0,.int .i64 1])/\w=w':=by
 have HN:=hid (fun wx=>Ld (w:=wx))
 go_enter func153,ntmps153
 go_wp2_with fail
 (with_reducible refine(HN.out _).mono ?_)
 rintro r w' ⟨rfl,rfl⟩;go_wp2_with fail
 go_ret2
 exact⟨rfl,rfl⟩
end
section
variable{w:World}{v:DV}{own:Nat->Option Qp}{D:Dev}{j:Nat}
def Re(n:Nat)(l:Int):Bool:=decide (l<0\/n<8\/(n:Int)-8<l)
theorem Un(h:IsDev w v own D)(hj:j<8)(l:Int)(hl:l<9223372036854775808):Calls prog 148 #[.iface 40 (.pointer (some ⟨v.tb j,0,none⟩)),.int .i64 l] w fun r w'=>r = .returned (.bool (Re D.n l))/\w=w':=by
 have hms:=meth_Size ⟨v.tb j,0,none⟩;have hszz:=thrSize_any h hj;have hn1:=h.wf.pos;have hn2:=h.wf.le
 generalize D.n=n at *
 have hdv:((n:Int)*64)/64=(n:Int):=by omega
 have HSIZE:=hid hszz;clear h hszz
 by_cases h0:l<0
 ·rw[show Re n l=true by unfold Re;simp[h0]]
  go_enter func148,ntmps148
  go_wp2_with fail
  go_ret
  exact⟨rfl,rfl⟩
 ·obtain⟨k,rfl⟩:∃ k:Nat,l=k:=⟨l.toNat,by omega⟩
  by_cases h8:n<8
  ·rw[show Re n k=true by unfold Re;simp[h8]]
   have h8':(n:Int)<8:=by omega
   go_enter func148,ntmps148
   go_wp2_with fail
   (with_reducible refine HSIZE.out.mono ?_)
   rintro r w' ⟨rfl,rfl⟩;go_wp2_with fail
   go_ret
   exact⟨rfl,rfl⟩
  ·have HL:Hid (Re n k=decide ((n:Int)-8<(k:Int))):=by
    show _=_
    unfold Re;rw[decide_eq_decide];omega
   generalize Re n k=lb at *
   obtain⟨q,hq⟩:∃ q:Int,(n:Int)-8=q:=⟨_,rfl⟩;have hqb:0<=q/\q<=4096:=by omega
   obtain⟨N,hN⟩:∃ N:Int,(n:Int)=N:=⟨_,rfl⟩;rw[hN]at HSIZE hdv hq;rw[hN,hq]at HL;have hwq:IntKind.u64.wrap (N-8)=q:=by rw[hq];exact IntWalk.u64_in _ (by omega)
   have hN8:¬ N<8:=by omega
   have hwN:IntKind.u64.wrap N=N:=IntWalk.u64_in _ (by omega);have hcv:∀ wx:World,(Go.convert 3 31 (.int .i64 (k:Int))).run prog wx = .ok (.int .u64 (k:Int)) wx:=fun wx=>by
    rw[run_convert_int (P:=prog) wx 3 31 .i64 (k:Int) (by kernel_rfl) (by kernel_rfl),show Tryz.prog.intKind 31 = .u64 by kernel_rfl,IntWalk.u64_in _ (by omega)]
   have HL0:=hid (And.intro hl (And.intro hq (And.intro hqb hN)));clear hl hq hqb hN hn1 hn2 h8 h0
   go_enter func148,ntmps148
   go_wp2_with fail
   (with_reducible refine HSIZE.out.mono ?_)
   rintro r w' ⟨rfl,rfl⟩;go_wp2_with fail
   go_ret
   exact⟨by rw[HL.out];show Ending.returned (.bool (decide (N<8) || decide (q<(k:Int))))=_;rw[show decide (N<8)=false by simp;omega];rfl,rfl⟩
end
end
section
open Go.Maps
attribute [local go_sem ↓] Go.wp_at_zero Go.wp_at_succ
def Py(off:Nat):List (Nat×Int):=(List.range 16).map fun e=>(off+32*e+24,0)
def Qct(off:Nat):List (Nat×Nat×Int):=Qe (Py off)
theorem Qm6(off k:Nat)(hk:k<16):Qv ((Py off).take (k+1))=Qv ((Py off).take k)++Qv [(off+32*k+24,0)]:=by
 rw[<- Za]
 congr 1
 unfold Py;rw[<- List.map_take,<- List.map_take,List.take_range,List.take_range,show min (k+1) 16=k+1 by omega,show min k 16=k by omega,List.range_succ,List.map_append]
 rfl
theorem Qw7(off:Nat)(h:off<=262144):Qz (Qct off):=Tc _ fun e he=>by
 unfold Py at he;obtain⟨x,hx,rfl⟩:=List.mem_map.1 he;have:=List.mem_range.1 hx;show off+32*x+24<_
 omega
theorem Qhb(off:Nat):(Qct off).length<=33:=by
 have:=Zx (Py off);have h:(Py off).length=16:=by simp[Py]
 unfold Qct;omega
section
variable{w:World}
end
section
variable{w:World}{v:DV}{own:Nat->Option Qp}{D:Dev}{j:Nat}
theorem Qdq(h:IsDev w v own D)(hj:j<8)(l:Nat)(hl:l+8<=D.n)(he:D.err j=0)(hx:D.exec+100000<4294967296) :
  Calls prog 89 #[.iface 40 (.pointer (some ⟨v.tb j,0,none⟩)),.int .i64 l] w fun r w'=>r = .returned (.int .i64 ((D.run j (Qct (64*l))).err j))/\Qr v own w (D.run j (Qct (64*l))) w':=by
 obtain⟨i0,hi0,hz0,hz1,hz2⟩:=info_parts Xe;have I:=hid (And.intro hi0 (And.intro hz0 (And.intro hz1 hz2)));clear hi0 hz0 hz1 hz2
 have hm2:=meth_Err ⟨v.tb j,0,none⟩;have hwf:=h.wf.le;have hn:=Un h hj l (by omega);rw[show Re D.n l=false by unfold Re;simp;omega]at hn;have HN:=hid hn;have hER:=err_any h hj;rw[he]at hER;have HER:=hid hER;have H:=hid h;have hlb:l<=4096:=by omega
 obtain⟨o,ho⟩:∃ o,64*l=o:=⟨_,rfl⟩;have hol:o<=262144:=by omega
 have q1:(l:Int)*64=(o:Int):=by omega
 rw[ho];have HR:=hid (fun(wb:World) (pv:Value) (ha:Acc w w.heap.size wb 73 3 pv (Qct o).length (Qd (Qct o)))=>Le h hj ha (Qw7 o hol) (by have:=Qhb o;omega) hx);have HAT:=hid (fun(wx:World) (b:Nat) (hx:Yg wx b o (.iface 40 (.pointer (some ⟨v.tb j,0,none⟩)))) (e:Nat) (he:e<16)=>Qba hx e 3 he (by omega) hol);have HST:=hid (fun(wx:World) sv (hs:Ql wx 2 sv 16 (Qv (Py o)))=>Xd (w:=wx) sv (Py o) (by rw[show(Py o).length=16 by simp[Py]];exact hs) (by simp[Py]) (fun e hm=>by
  unfold Py at hm;obtain⟨x,hx,rfl⟩:=List.mem_map.1 hm;have:=List.mem_range.1 hx;show o+32*x+24<_
  omega))
 have HFP:Hid (Qe (Py o)=Qct o):=rfl;rw[HFP.out]at HST;have HTK:=hid (Qm6 o);have HT16:Hid (Qv ((Py o).take 16)=Qv (Py o)):=by show _=_;rw[List.take_of_length_le (by simp[Py])]
 have HT0:Hid (Qv ((Py o).take 0) = []):=rfl;have HB0:Hid (Yg (w.alloc (.cells #[.iface 40 (.pointer (some ⟨v.tb j,0,none⟩)),.int .u64 o] 228)) w.heap.size o (.iface 40 (.pointer (some ⟨v.tb j,0,none⟩)))):=⟨Blk.new w _ _⟩;have HBB:=hid (Qa w (.cells #[.iface 40 (.pointer (some ⟨v.tb j,0,none⟩)),.int .u64 o] 228))
 generalize Qct o=P at *
 clear h hn hER he ho hl hx hwf
 go_enter func89,ntmps89
 go_wp2_with fail
 (with_reducible refine HN.out.mono ?_)
 rintro r w' ⟨rfl,rfl⟩;go_wp2_with fail
 (with_reducible refine HER.out.mono ?_)
 rintro r w' ⟨rfl,rfl⟩;go_wp2_with fail
 have A0:Hid (Acc w w.heap.size (w.alloc (.cells #[.iface 40 (.pointer (some ⟨v.tb j,0,none⟩)),.int .u64 o] 228)) 140 2 (.slice none 0 0) 0 (Qv ((Py o).take 0))):=Acc.nil _ _ _ _ _ HBB.out HBB.out.size;have A1:Hid (Yg (w.alloc (.cells #[.iface 40 (.pointer (some ⟨v.tb j,0,none⟩)),.int .u64 o] 228)) w.heap.size o (.iface 40 (.pointer (some ⟨v.tb j,0,none⟩)))):=HB0.out
 go_loopw [7,8,23] (fun sv _ y wr=>∃ k:Nat,k<=16/\y = .int .i64 k/\Acc w w.heap.size wr 140 2 sv k (Qv ((Py o).take k))/\Yg wr w.heap.size o (.iface 40 (.pointer (some ⟨v.tb j,0,none⟩)))/\sv.ownBlock≠some w.heap.size) (fun _ _ y _=>16-(intOf y).toNat)
 case atStart=>exact⟨0,by omega,rfl,A0.out,A1.out,by simp[Value.ownBlock]⟩
 case round=>
  clear A0 A1;obtain⟨k,hk,rfl,ha,hd,hne⟩:=hrel;obtain⟨qa,qc,rfl⟩:=ha.slice;have A:=hid ha;have DA:=hid hd;have NE:=hid hne
  clear ha hd hne
  by_cases hlt:k<16
  ·have hk':(k:Int)<16:=by omega
   have HT:=hid (HTK.out k hlt);have hat:=HAT.out _ _ DA.out k hlt;obtain⟨q,hq⟩:∃ q,o+32*k+24=q:=⟨_,rfl⟩;rw[show o+32*k+8*3=q by omega,show((3:Nat):Int)=3 from rfl]at hat;rw[hq]at HT;have HA:=hid hat;clear hq hat;go_wp2_with fail
   (with_reducible refine HA.out.mono ?_)
   rintro r w' ⟨rfl,rfl⟩;go_wp2_with (at_builtin;refine Qc _ rfl _ _ 52 rfl 140 i0 _ 2 16 underlying52 I.out.1 I.out.2.1 I.out.2.2.1 I.out.2.2.2 rfl (by decide) _ k (Qv ((Py o).take k)) rfl (by exact A.out.own.alloc _) _ 1 (Qv [(q,0)]) rfl (by exact Ql.newAt _ _ _ 2 1 _ (by simp) rfl) (Xp _) (by unfold maxLen;omega) (by omega) ?_)
   intro v1 w5 o1 g1 n1 m1;have A2:=hid (A.out.next (m:=1) (Qa wr _) o1 g1 n1 (by simp));have hgb:w5.heap[w.heap.size]? = wr.heap[w.heap.size]?:=(g1.block _ (Nat.lt_trans DA.out.blk.lt (by simp)) (fun e=>NE.out e.symm)).trans (Below.heap_alloc _ _ _ DA.out.blk.lt);have D2:Hid (Yg w5 w.heap.size o (.iface 40 (.pointer (some ⟨v.tb j,0,none⟩)))):=⟨hgb.trans DA.out.blk⟩;have N2:Hid (v1.ownBlock≠some w.heap.size):=fun e=>by
    rcases n1 with n1 | n1
    ·rw[Qh,n1,<- Qh]at e;exact NE.out e
    ·rw[Qh,n1]at e
     simp at e;have:=DA.out.blk.lt;omega
   clear o1 g1 n1 m1 A hgb;rw[<- HT.out]at A2;go_wp2_with fail
   go_roundw
   case rel=>exact⟨k+1,by omega,by go_num,A2.out,D2.out,N2.out⟩
   case measure=>simp[intOf];omega
  ·obtain rfl:k=16:=by omega
   rw[HT16.out]at A;have HS2:=hid (HST.out _ _ A.out.rd);go_wp2_with fail
   (with_reducible refine HS2.out.mono ?_)
   rintro r w6 ⟨pv,rfl,hp⟩;have HR2:=hid (HR.out _ _ (hp.deeper A.out.bel));obtain⟨pa,pc,rfl⟩:=hp.slice;clear hp;go_wp2_with fail
   (with_reducible refine HR2.out.mono ?_)
   rintro r w7 ⟨rfl,p7⟩;have P7:=hid p7;clear p7
   go_wp2_with fail
   go_ret
   exact⟨rfl,P7.out⟩
end
end
end Go.Proofs.YtlhchkajjpefmaaGreatDoor
