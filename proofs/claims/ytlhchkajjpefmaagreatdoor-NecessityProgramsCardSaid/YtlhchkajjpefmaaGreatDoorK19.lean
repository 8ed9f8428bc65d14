/- Lemmas and walks, part 19: each theorem says what it proves; no condition beside its own. -/
import Derived.Test.YtlhchkajjpefmaaGreatDoorK18
set_option maxHeartbeats 16000000
set_option maxRecDepth 100000
namespace Go.Proofs.YtlhchkajjpefmaaGreatDoor
open Lib(hid)
open Go.RowKit Go.Proofs.Tryz
section
open Go.Maps
attribute [local go_sem ↓] Go.wp_at_zero Go.wp_at_succ
instance (x n i:Nat):Decidable (Wl x n i):=by unfold Wl;infer_instance
instance (x:Nat):Decidable (Jm x):=by unfold Jm;infer_instance
instance (W:Nat->Int) (s:List Nat) (n:Nat):Decidable (Qzc W s n):=by
 unfold Qzc;exact decidable_of_iff (∀ i,i<n->0<i->Tj W s (i-1)<Tj W s i) ⟨fun h i a b=>h i b a,fun h i a b=>h i b a⟩
instance (W:Nat->Int) (s:List Nat) (n:Nat):Decidable (Jq W s n):=by unfold Jq;infer_instance
instance (W:Nat->Int) (n:Nat):Decidable (Xk W n):=by unfold Xk;infer_instance
def lfW(F:Nat->Int)(i:Nat):Int:=F (192+i)
def lfE(i:Nat):Int:=Qw1 [5] [1] 0 0 false i
def Qhj(k:Nat):List (Nat×Int):=(List.range k).map fun i=>(1536+8*i,lfE i)
def Uk:List (Nat×Nat×Int):=Qe (Qhj 28)
def Gt(F:Nat->Int):List (Int×Int):=De (lfW F) (Zd (lfW F))
def Yu(F:Nat->Int)(k x:Int):List (Nat×Nat×Int):=Qdl (lfW F) 1536 k x (findIdx (lfW F) k (Zd (lfW F))) (Ko (Zd (lfW F)))
def gLf(F:Nat->Int)(e:Bool):Bool:=decide (Xk (lfW F) 4096)&&(Qci (Gt F) e&&decide (Gt (Xj (Yu F 7 3) F)=Gt F ++ [(7,3)]))
def Qht(e:Nat×Nat×Int):Bool:=decide (1<=e.1)&&(decide (e.1<=3)&&(decide (e.2.1%8=0)&&(decide (e.2.1<4096)&&(decide (0<=e.2.2)&&decide (e.2.2<18446744073709551616)))))
theorem Kl{e:Nat×Nat×Int}(h:Qht e=true){n:Nat}(hn:64<=n):OkQ n e:=by
 unfold Qht at h;simp only[Bool.and_eq_true,decide_eq_true_eq]at h;obtain⟨h1,h2,h3,h4,h5,h6⟩:=h;exact⟨h1,h2,h3,by omega,h5,h6⟩
structure Qlg(F:Nat->Int)(k x:Int):Prop where
 ok:Xk (lfW F) 4096
 nf:Jt (lfW F) k (Zd (lfW F))=false
 len:(Zd (lfW F)).length<12
 q:∀ e∈Yu F k x,Qht e=true
 ql:(Yu F k x).length<=20
 ok2:Xk (lfW (Xj (Yu F k x) F)) 4096
 nx2:Xj (Yu F k x) F 193=0
structure Qv7(F:Nat->Int):Prop where
 nx:F 193=0
 nh:F 195=0
 put:Xk (lfW F) 4096->Qci (Gt F) false=true->Qlg F 7 3
theorem Ae{W:Nat->Int}(h:W 1=0)(a b:Nat):Xk W a↔Xk W b:=by
 unfold Xk Jq;simp[h]
section
variable{w:World}{v:DV}{own:Nat->Option Qp}{D:Dev}{g n x:Nat}{C F:Nat->Int}
theorem Sq(h:D.cur=F):Xc D 562954248388800=lfW F:=by
 funext i
 unfold Xc lfW;rw[h]
 rfl
theorem OnC.node(h:OnC D n F x)(hd:IsDev w v own D)(hn:64<=n):Yw w v own D 0 562954248388800 where
 dev:=hd
 hj:=by omega
 hp:=by omega
 hp0:=by omega
 on:=h.off
 err:=h.err
 range:=by rw[h.dn];show 1536+224<=_;omega
 hW:=fun i _=>h.vb.cur _
def Aj(w:World)(g:Nat):Prop:=Blk w g #[.func (.func 121) #[] #[]] 195
theorem Aj.below{w':World}(h:Aj w g)(hb:Below w.heap.size w w'):Aj w' g:=Blk.below h hb
theorem Aj.cell(h:Aj w g):w.cell? ⟨g,0,none⟩=some (.func (.func 121) #[] #[]):=Blk.cell h rfl
theorem Qc9:Calls prog 121 #[(.iface 40 (.pointer (some ⟨v.tb 0,0,none⟩)))] w fun r w'=>r = .returned (.agg #[(.iface 40 (.pointer (some ⟨v.tb 0,0,none⟩))),.int .u64 562954248388800])/\Below w.heap.size w w':=by
 have H1:Hid (∀ wx,Calls prog 73 #[.int .u64 1536,.int .u16 1,.int .u8 2] wx fun r w'=>r = .returned (.tuple #[.int .u64 562954248388800,.int .i64 0])/\wx=w'):=hid (fun wx=>Ad (w:=wx) 1536 (by omega) (by omega) (by omega));have H2:Hid (∀ wx,Calls prog 74 #[(.iface 40 (.pointer (some ⟨v.tb 0,0,none⟩))),.int .u64 562954248388800] wx fun r w'=>r = .returned (.agg #[(.iface 40 (.pointer (some ⟨v.tb 0,0,none⟩))),.int .u64 562954248388800])/\Below wx.heap.size wx w'):=hid (fun wx=>Qg3 (w:=wx) _ _ (.inr ⟨_,_,rfl⟩));have K0:=hid (Blk.new w #[.nilIface,.int .u64 0] 154);have B0:=hid (Qa w (.cells #[.nilIface,.int .u64 0] 154))
 go_enter func121,ntmps121
 go_wp2_with fail
 (with_reducible refine(H1.out _).mono ?_)
 rintro r w1 ⟨rfl,rfl⟩;go_wp2_with fail
 (with_reducible refine(H2.out _).mono ?_)
 rintro r w1 ⟨rfl,b1⟩;have K1:=hid (K0.out.below b1);have B1:=hid (B0.out.trans (b1.mono B0.out.size));have r0:=K1.out.cell (i:=0) rfl;have r1:=K1.out.cell (i:=1) rfl
 have f0:=K1.out.frozen 0;have f1:=K1.out.frozen 1
 clear b1;go_wp2_with fail
 refine bodyPost_ret (v:=.agg #[(.iface 40 (.pointer (some ⟨v.tb 0,0,none⟩))),.int .u64 562954248388800]) (by simp[results,results121,go_sem,r0,r1]) rfl ⟨rfl,?_⟩
 exact(B1.out.setCell (Nat.le_refl _) _).setCell (Nat.le_refl _) _
theorem Qft(hd:IsDev w v own D)(h:OnC D n F x)(hn:64<=n)(hF:F 193=0)(h3:F 195=0)(k y:Int)(P:Qlg F k y) :
  Calls prog 75 #[.agg #[(.iface 40 (.pointer (some ⟨v.tb 0,0,none⟩))),.int .u64 562954248388800],.int .u64 k,.int .u64 y] w fun r w'=>∃ sv,r = .returned (.tuple #[sv,.int .i64 0])/\Acc w w.heap.size w' 73 3 sv (Yu F k y).length (Qd (Yu F k y)):=by
 have hN:=h.node hd hn;have hw:=Sq h.cur;have:=Cb (w:=w) (v:=v) (own:=own) (D:=D) (j:=0) (p:=562954248388800) hN k y (by rw[hw,h.dn];exact(Ae hF _ _).1 P.ok) (by rw[hw];intro h;have:=h.1;have e:lfW F 3=F 195:=rfl;omega) (by rw[hw];exact P.nf) (by rw[hw];exact P.len);rw[hw]at this;refine this.mono ?_
 rintro r w' ⟨hb,pv,rfl,ho,hg⟩;exact⟨pv,rfl,⟨ho,hg,hb,hb.size⟩⟩
theorem Qoh(hg:Aj w g)(hd:IsDev w v own D)(h:OnC D n F x)(hn:64<=n)(hF:F 193=0)(h3:F 195=0)(P:Qlg F 6 2) :
  Calls prog 125 #[(.iface 40 (.pointer (some ⟨v.tb 0,0,none⟩))),.pointer (some ⟨g,0,none⟩)] w fun r w'=>∃ sv,r = .returned (.tuple #[sv,.int .i64 0])/\Acc w w.heap.size w' 73 3 sv (Yu F 6 2).length (Qd (Yu F 6 2)):=by
 have H1:=hid (Qc9 (w:=w) (v:=v));have H2:=hid (fun(wx:World) (hb:Below w.heap.size w wx)=>Qft (hd.below hb) h hn hF h3 6 2 P);have c0:=hg.cell;clear hg hd h hn hF h3 P
 go_enter func125,ntmps125
 go_wp2_with fail
 (with_reducible refine H1.out.mono ?_)
 rintro r w1 ⟨rfl,b1⟩;have B1:=hid b1;have H3:=hid (H2.out w1 b1);clear b1 H2;go_wp2_with fail
 (with_reducible refine H3.out.mono ?_)
 rintro r w2 ⟨sv,rfl,a2⟩;have A2:=hid (a2.deeper B1.out);clear a2
 go_wp2_with fail
 go_ret2
 exact⟨_,rfl,A2.out⟩
theorem Qn3(k:Nat):Qv (Qhj (k+1))=Qv (Qhj k) ++ [.int .u64 ((1536+8*k:Nat):Int),.int .u64 (lfE k)]:=by
 unfold Qhj;rw[List.range_succ,List.map_append,Za]
 rfl
theorem Q1k(i:Nat)(hi:i<28):0<=lfE i/\lfE i<18446744073709551616:=by
 have:∀ i:Fin 28,0<=lfE i.val/\lfE i.val<18446744073709551616:=by decide +kernel
 exact this ⟨i,hi⟩
theorem Qfs{e:Nat×Int}(h:e∈Qhj 28):e.1%8=0/\e.1<4096/\0<=e.2/\e.2<18446744073709551616:=by
 obtain⟨i,hi,rfl⟩:=List.mem_map.1 h;have hi:=List.mem_range.1 hi;exact⟨by simp only;omega,by simp only;omega,Q1k i hi⟩
theorem Qxn:∀ e∈Uk,Qht e=true:=by decide +kernel
theorem Qhk(hS:SCl D 0 n C x)(hn:64<=n):SCl (D.run 0 Uk) 0 n (fun i=>Qu (Qhj 28) (C i) i) (x+(Uk).length):=
 hS.stores (ws:=Qhj 28) (fun e he=>by have:=Qfs he;omega) (fun e he=>(Qfs he).2.2)
theorem Qog{B:Nat}(P:Pst B w v D own w)(hS:SCl D 0 n C x)(hn:64<=n)(hx:x<=1000) :
  Calls prog 122 #[(.iface 40 (.pointer (some ⟨v.tb 0,0,none⟩)))] w fun r w'=>r = .returned (.int .i64 0)/\∃ own',Pst B w v (D.run 0 Uk) own' w':=by
 have R1:Hid (Ql (w.alloc (.cells #[.int .u64 5] 31)) 1 (.slice (some ⟨w.heap.size,0,none⟩) 1 1) [(5:Int)].length (Xb [5])):=hid (Ql.new w #[.int .u64 5] 31 1 1 rfl);have R2:Hid (∀ wx:World,Ql (wx.alloc (.cells #[.int .u64 1] 31)) 1 (.slice (some ⟨wx.heap.size,0,none⟩) 1 1) [(1:Int)].length (Xb [1])):=hid (fun wx=>Ql.new wx #[.int .u64 1] 31 1 1 rfl);have HE:Hid (Calls prog 123 #[.slice (some ⟨w.heap.size,0,none⟩) 1 1,.slice (some ⟨w.heap.size+1,0,none⟩) 1 1,.int .u64 0,.int .u64 0,.bool false] ((w.alloc (.cells #[.int .u64 5] 31)).alloc (.cells #[.int .u64 1] 31)) fun r w'=>∃ b,r = .returned (.tuple #[.slice (some ⟨b,0,none⟩) 28 28,.int .i64 0])/\Row w' b 28 31 (fun i => .int .u64 (lfE i))/\Below w.heap.size w w'):=hid (by
  have h2:=R2.out (w.alloc (.cells #[.int .u64 5] 31));rw[World.size_alloc]at h2;have:=Qe8 (w:=(w.alloc (.cells #[.int .u64 5] 31)).alloc (.cells #[.int .u64 1] 31)) (.slice (some ⟨w.heap.size,0,none⟩) 1 1) (.slice (some ⟨w.heap.size+1,0,none⟩) 1 1) [5] [1] 0 0 false (R1.out.alloc _) h2 rfl (by simp);refine this.mono fun r w' hp => ?_
  obtain⟨b,h1,h2,h3,h4⟩:=hp.1 (fun i hi=>by
   have:i=0:=by simp at hi;omega
   subst this;simp[Kr])
  exact⟨b,h1,h2,((Qa w _).trans ((Qa _ _).mono (by simp))).trans (h4.mono (by simp;omega))⟩)
 have hcl:=Qhk hS hn;have hex:=hS.exec;have HST:Hid (∀ (wx:World) (sv:Value),Below w.heap.size w wx->Ql wx 2 sv (Qhj 28).length (Qv (Qhj 28))->Calls prog 124 #[sv] wx fun r w'=>∃ ov,r = .returned ov/\Below w.heap.size w w'/\Calls prog 12 #[ov,(.iface 40 (.pointer (some ⟨v.tb 0,0,none⟩)))] w' fun r w2=>r = .returned (.int .i64 0)/\∃ own',Pst B w v (D.run 0 Uk) own' w2):=hid (fun wx sv hb hr=>(Xd sv (Qhj 28) hr (by simp[Qhj]) (fun e he=>by have:=Qfs he;omega)).mono fun r w' hp=>by
  obtain⟨ov,rfl,ha⟩:=hp;refine⟨ov,rfl,hb.trans (ha.bel.mono hb.size),(Le (P.next hb).dev (j:=0) (by omega) ha (fun e he => ?_) (by decide) (by omega)).mono fun r w2 hq => ?_⟩
  ·have:=Kl (Qxn e he) (Nat.le_refl 64)
   exact⟨this.lo,this.hi,by have:=this.lt;omega⟩
  ·exact⟨by rw[hq.1];show Ending.returned (.int .i64 ((D.run 0 Uk).err 0))=_;rw[hcl.grp.on.err],(P.next hb).post hq.2⟩)
 obtain⟨i0,hi,hz0,hz1,hz2⟩:=info_parts Xe;have I:=hid (And.intro hi (And.intro hz0 (And.intro hz1 hz2)));clear hi hz0 hz1 hz2 P hS hn hx hcl hex R1 R2
 go_enter func122,ntmps122
 go_wp2_with fail
 (with_reducible refine HE.out.mono ?_)
 rintro r w1 ⟨b,rfl,row,b1⟩;have ROW:=hid row;have B1:=hid b1
 have A0:Hid (Acc w1 w1.heap.size w1 140 2 (.slice none 0 0) 0 (Qv (Qhj 0))):=hid (Acc.nil _ _ _ _ _ (Below.refl _ _) (Nat.le_refl _));clear row b1 HE;go_wp2_with fail
 go_loopw [5,19] (fun u y wr=>∃ k:Nat,k<=28/\y = .int .i64 k/\Acc w1 w1.heap.size wr 140 2 u k (Qv (Qhj k))) (fun _ y _=>28-(intOf y).toNat)
 case atStart=>exact⟨0,by omega,rfl,A0.out⟩
 case round=>
  clear A0;obtain⟨k,hk,rfl,ha⟩:=hrel;rename World=>wr
  obtain⟨la,lc,hsv⟩:=ha.slice;subst hsv;have A:=hid ha;clear ha
  by_cases hlt:k<28
  ·have hlt':(k:Int)<28:=by omega
   have ck:wr.cell? ⟨b,k,none⟩=some (.int .u64 (lfE k)):=(ROW.out.below A.out.bel).cell hlt;have g1:IntKind.u64.wrap (k:Int)=k:=IntWalk.u64_in _ (by omega);have g2:IntKind.u64.wrap ((k:Int)*8)=(k:Int)*8:=IntWalk.u64_in _ (by omega);have g3:IntKind.u64.wrap (1536+(k:Int)*8)=1536+(k:Int)*8:=IntWalk.u64_in _ (by omega);have HF:=hid (Qn3 k);go_wp2_with (at_builtin;refine Qc _ rfl _ _ 52 rfl 140 i0 _ 2 16 underlying52 I.out.1 I.out.2.1 I.out.2.2.1 I.out.2.2.2 rfl (by decide) _ _ _ rfl (by exact A.out.own.alloc _) _ 1 [.int .u64 (1536+(k:Int)*8),.int .u64 (lfE k)] rfl (by exact Ql.newAt _ _ _ 2 1 _ rfl rfl) (by simp[Value.oneCell']) (by unfold maxLen;omega) (by omega) ?_)
   rintro v8 w8 o8 g8 a8 _;have A8:=hid (A.out.next (Qa _ _) o8 g8 a8 (by simp));clear o8 g8 a8;go_wp2_with fail
   go_roundw
   case rel=>exact⟨k+1,by omega,by go_num,by rw[HF.out,show((1536+8*k:Nat):Int)=1536+(k:Int)*8 by omega];exact A8.out⟩
   case measure=>simp[intOf];omega
  ·obtain rfl:k=28:=by omega
   have HS1:=hid (HST.out wr _ (B1.out.trans (A.out.bel.mono B1.out.size)) A.out.rd);go_wp2_with fail
   (with_reducible refine HS1.out.mono ?_)
   rintro r w5 ⟨ov,rfl,b5,hr⟩;have HR:=hid hr;clear hr b5 HS1;go_wp2_with fail
   (with_reducible refine HR.out.mono ?_)
   rintro r w6 ⟨rfl,p6⟩;have P6:=hid p6;clear p6
   go_wp2_with fail
   go_ret
   exact⟨rfl,P6.out⟩
theorem Qoi{B:Nat}(hg:Aj w g)(P:Pst B w v D own w)(hS:SCl D 0 n F x)(hn:64<=n)(hx:x<=1000)(hok:Qv7 F)(e:Bool) :
  Calls prog 126 #[(.iface 40 (.pointer (some ⟨v.tb 0,0,none⟩))),.bool e,.pointer (some ⟨g,0,none⟩)] w fun r w'=>r = .returned (.bool (gLf F e))/\Below B w w':=by
 have hO:=hS.onC;have hN:=fun(wx:World) (hb:Below w.heap.size w wx)=>hO.node (P.next hb).dev hn
 have hw:=Sq hO.cur;have hsz:Xk (lfW F) 4096->Xk (Xc D 562954248388800) (D.n*64):=fun h=>by rw[hw];exact(Ae hok.nx _ _).1 h
 have hsz2:Xk (Xc D 562954248388800) (D.n*64)->Xk (lfW F) 4096:=fun h=>by rw[hw]at h;exact(Ae hok.nx _ _).1 h
 have H1:=hid (Qc9 (w:=w) (v:=v));have HCK:Hid (∀ wx,Below w.heap.size w wx->Calls prog 127 #[.agg #[(.iface 40 (.pointer (some ⟨v.tb 0,0,none⟩))),.int .u64 562954248388800]] wx fun r w'=>r = .returned (.int .i64 (if Xk (lfW F) 4096 then 0 else 11))/\Below wx.heap.size wx w'):=hid (fun wx hb=>(Ap (hN wx hb)).mono fun r w' hp=>by
  rcases hp with ⟨hb',⟨h1,h2⟩ | ⟨h1,h2⟩⟩
  ·exact⟨by rw[h2,if_pos (hsz2 h1)],hb'⟩
  ·exact⟨by rw[h2,if_neg (fun h=>h1 (hsz h))],hb'⟩)
 have HA:Hid (∀ wx,Calls prog 128 #[.agg #[(.iface 40 (.pointer (some ⟨v.tb 0,0,none⟩))),.int .u64 562954248388800],.int .u64 0] wx fun r w'=>∃ bl bf,r = .returned (.func (.func 194) #[] #[.pointer (some ⟨bl,0,none⟩),.pointer (some ⟨bf,0,none⟩)])/\Blk w' bl #[(.iface 40 (.pointer (some ⟨v.tb 0,0,none⟩))),.int .u64 562954248388800] 154/\Blk w' bf #[.int .u64 0] 31/\Below wx.heap.size wx w'):=hid (fun wx=>(Qwg (w:=wx) (.inr ⟨_,rfl⟩) 562954248388800 0).mono fun r w' hp=>⟨_,_,hp.1,by rw[hp.2];exact(Blk.new wx _ _).alloc _,by rw[hp.2];exact(by have:=Blk.new (wx.alloc (.cells #[(.iface 40 (.pointer (some ⟨v.tb 0,0,none⟩))),.int .u64 562954248388800] 154)) #[.int .u64 0] 31;rwa [World.size_alloc]at this),by rw[hp.2];exact(Qa _ _).trans ((Qa _ _).mono (by simp))⟩);have hle:(Gt F).length<=15:=by simp only[Gt,De,Zd,Yr,List.length_map,List.length_range];omega
 have hle2:(Gt (Xj (Yu F 7 3) F)).length<=15:=by simp only[Gt,De,Zd,Yr,List.length_map,List.length_range];omega
 have HC1:Hid (Xk (lfW F) 4096->∀ wx bl bf,Below w.heap.size w wx->Blk wx bl #[(.iface 40 (.pointer (some ⟨v.tb 0,0,none⟩))),.int .u64 562954248388800] 154->Blk wx bf #[.int .u64 0] 31->Calls prog 117 #[.func (.func 194) #[] #[.pointer (some ⟨bl,0,none⟩),.pointer (some ⟨bf,0,none⟩)]] wx (Yx wx (Gt F))):=hid (fun h wx bl bf hb hk hk2=>by
  have:=Lu (hN wx hb) (hsz h) hk hk2
  rwa [hw]at this)
 have HX:Hid (∀ (wx:World) (u:Value),Ql wx 2 u (Gt F).length (prC (Gt F))->Calls prog 119 #[u,.bool e] wx fun r w'=>r = .returned (.bool (Qci (Gt F) e))/\Below wx.heap.size wx w'):=hid (fun wx u hr=>Tr u _ e hr (by omega));have HB0:=hid P.size;have HP:Hid (Xk (lfW F) 4096->Qci (Gt F) e=true->∀ wx,Below w.heap.size w wx->Calls prog 75 #[.agg #[(.iface 40 (.pointer (some ⟨v.tb 0,0,none⟩))),.int .u64 562954248388800],.int .u64 7,.int .u64 3] wx fun r w'=>∃ sv,r = .returned (.tuple #[sv,.int .i64 0])/\Below wx.heap.size wx w' /\
   Calls prog 12 #[sv,(.iface 40 (.pointer (some ⟨v.tb 0,0,none⟩)))] w' fun r w2=>r = .returned (.int .i64 0)/\Below B w w2/\wx.heap.size<=w2.heap.size/\(∀ k,w.heap.size<=k->k<wx.heap.size->w2.heap[k]? = wx.heap[k]?) /\
    ∀ wy bl bf,Below w2.heap.size w2 wy->Blk wy bl #[(.iface 40 (.pointer (some ⟨v.tb 0,0,none⟩))),.int .u64 562954248388800] 154->Blk wy bf #[.int .u64 0] 31->Calls prog 117 #[.func (.func 194) #[] #[.pointer (some ⟨bl,0,none⟩),.pointer (some ⟨bf,0,none⟩)]] wy (Yx wy (Gt (Xj (Yu F 7 3) F)))):=hid (fun hno he wx hb=>by
  have Tryz':=hok.put hno (Eg he);have hO2:=hO.run (q:=Yu F 7 3) (fun a ha=>Kl (Tryz'.q a ha) hn);have hex:=hS.exec;have hql:=Tryz'.ql;refine(Qft (P.next hb).dev hO hn hok.nx hok.nh 7 3 Tryz').mono ?_
  rintro r w' ⟨sv,rfl,ha⟩;refine⟨sv,rfl,ha.bel,(Le (P.next hb).dev (j:=0) (by omega) ha (fun a ha => ?_) (by omega) (by omega)).mono fun r w2 hq => ?_⟩
  ·have:=Kl (Tryz'.q a ha) (Nat.le_refl 64)
   exact⟨this.lo,this.hi,by have:=this.lt;omega⟩
  ·have dd:=hq.2
   have P1:=P.next hb;obtain⟨own2,P2⟩:=P1.post hq.2;obtain⟨_,_,_,u⟩:=dd;refine⟨by rw[hq.1];show Ending.returned (.int .i64 ((D.run 0 (Yu F 7 3)).err 0))=_;rw[hO2.err],P2.bel,?_,fun k h1 h2 => ?_,fun wy bl bf hwy hbl hbf => ?_⟩
   ·exact u.size
   ·exact u.block k h2 (fun ho=>by have:=P.dev.lt k ho;omega)
   ·have hw2:=Sq hO2.cur
    have:=Lu (hO2.node (P2.next hwy).dev hn) (by rw[hw2];exact(Ae Tryz'.nx2 _ _).1 Tryz'.ok2) hbl hbf
    rwa [hw2]at this)
 have HGC:Hid (∀ wx,Below w.heap.size w wx->wx.cell? ⟨g,0,none⟩=some (.func (.func 121) #[] #[])):=hid (fun wx hb=>(hg.below hb).cell);have c0:=hg.cell;unfold gLf;clear P hS hn hx hok hO hN hw hsz hsz2 hg
 by_cases hno:Xk (lfW F) 4096
 case neg=>
  rw[if_neg hno]at HCK;rw[decide_eq_false hno];clear HC1 HP HX HA hno
  go_enter func126,ntmps126
  go_wp2_with fail
  (with_reducible refine H1.out.mono ?_)
  rintro r w1 ⟨rfl,b1⟩;have B1:=hid (b1.trans ((Qa w1 (.cells #[(.iface 40 (.pointer (some ⟨v.tb 0,0,none⟩))),.int .u64 562954248388800] 154)).mono b1.size));have K1:=hid (Blk.new w1 #[(.iface 40 (.pointer (some ⟨v.tb 0,0,none⟩))),.int .u64 562954248388800] 154);have k0:=K1.out.cell (i:=0) rfl;have k1:=K1.out.cell (i:=1) rfl
  clear b1;go_wp2_with fail
  (with_reducible refine(HCK.out _ B1.out).mono ?_)
  rintro r w2 ⟨rfl,b2⟩;have B2:=hid ((B1.out.trans (b2.mono B1.out.size)).mono HB0.out);clear b2;go_wp2_with fail
  go_ret
  exact⟨rfl,B2.out⟩
 case pos=>
 have HC:=hid (HC1.out hno);have HP1:=hid (HP.out hno);rw[if_pos hno]at HCK;rw[decide_eq_true hno,Bool.true_and];clear HC1 HP hno
 generalize Gt (Xj (Yu F 7 3) F)=l2 at *
 generalize Gt F=l1 at *
 generalize hex:Qci l1 e=ex at *
 clear hex
 cases ex
 ·clear HP1
  go_enter func126,ntmps126
  go_wp2_with fail
  (with_reducible refine H1.out.mono ?_)
  rintro r w1 ⟨rfl,b1⟩;have B1:=hid (b1.trans ((Qa w1 (.cells #[(.iface 40 (.pointer (some ⟨v.tb 0,0,none⟩))),.int .u64 562954248388800] 154)).mono b1.size));have K1:=hid (Blk.new w1 #[(.iface 40 (.pointer (some ⟨v.tb 0,0,none⟩))),.int .u64 562954248388800] 154);have k0:=K1.out.cell (i:=0) rfl;have k1:=K1.out.cell (i:=1) rfl
  clear b1;go_wp2_with fail
  (with_reducible refine(HCK.out _ B1.out).mono ?_)
  rintro r w2 ⟨rfl,b2⟩;have B2:=hid (B1.out.trans (b2.mono B1.out.size));have K2:=hid (K1.out.below b2);have k0:=K2.out.cell (i:=0) rfl;have k1:=K2.out.cell (i:=1) rfl
  clear b2;go_wp2_with fail
  (with_reducible refine(HA.out _).mono ?_)
  rintro r w3 ⟨bl,bf,rfl,kb,kf,b3⟩;have B3:=hid (B2.out.trans (b3.mono B2.out.size));have HC2:=hid (HC.out w3 bl bf B3.out kb kf);clear kb kf b3 HC k0 k1;go_wp2_with fail
  (with_reducible refine HC2.out.mono ?_)
  rintro r w4 hp;obtain⟨u,rfl,ru,_,_,b4⟩:=hp.rd;have B4:=hid (B3.out.trans (b4.mono B3.out.size));have HX1:=hid (HX.out w4 u ru);clear hp ru b4 HC2;go_wp2_with fail
  (with_reducible refine HX1.out.mono ?_)
  rintro r w5 ⟨rfl,b5⟩;have B5:=hid ((B4.out.trans (b5.mono B4.out.size)).mono HB0.out);clear b5;go_wp2_with fail
  go_ret
  exact⟨by simp,B5.out⟩
 ·have HP2:=hid (HP1.out rfl)
  obtain⟨i0,hi,hz0,hz1,hz2⟩:=info_parts Aa;have I:=hid (And.intro hi (And.intro hz0 (And.intro hz1 hz2)));clear hi hz0 hz1 hz2 HP1
  go_enter func126,ntmps126
  go_wp2_with fail
  (with_reducible refine H1.out.mono ?_)
  rintro r w1 ⟨rfl,b1⟩;have B1:=hid (b1.trans ((Qa w1 (.cells #[(.iface 40 (.pointer (some ⟨v.tb 0,0,none⟩))),.int .u64 562954248388800] 154)).mono b1.size));have K1:=hid (Blk.new w1 #[(.iface 40 (.pointer (some ⟨v.tb 0,0,none⟩))),.int .u64 562954248388800] 154);have k0:=K1.out.cell (i:=0) rfl;have k1:=K1.out.cell (i:=1) rfl
  have S1:=hid b1.size;clear b1;go_wp2_with fail
  (with_reducible refine(HCK.out _ B1.out).mono ?_)
  rintro r w2 ⟨rfl,b2⟩;have B2:=hid (B1.out.trans (b2.mono B1.out.size));have K2:=hid (K1.out.below b2);have k0:=K2.out.cell (i:=0) rfl;have k1:=K2.out.cell (i:=1) rfl
  clear b2;go_wp2_with fail
  (with_reducible refine(HA.out _).mono ?_)
  rintro r w3 ⟨bl,bf,rfl,kb,kf,b3⟩;have B3:=hid (B2.out.trans (b3.mono B2.out.size));have K3:=hid (K2.out.below b3);have HC2:=hid (HC.out w3 bl bf B3.out kb kf);clear kb kf b3 HC k0 k1;go_wp2_with fail
  (with_reducible refine HC2.out.mono ?_)
  rintro r w4 hp;obtain⟨u,rfl,ru,ou,gu,b4⟩:=hp.rd;have B4:=hid (B3.out.trans (b4.mono B3.out.size));have K4:=hid (K3.out.below b4);have HX1:=hid (HX.out w4 u ru);have OU:=hid ou;have GU:Hid (∀ g,u.ownBlock=some g->w.heap.size<=g):=hid (fun g hg=>Nat.le_trans B3.out.size (gu g hg))
  clear hp ru b4 HC2 ou gu HX;go_wp2_with fail
  (with_reducible refine HX1.out.mono ?_)
  rintro r w5 ⟨rfl,b5⟩;have B5:=hid (B4.out.trans (b5.mono B4.out.size));have K5:=hid (K4.out.below b5);have OU5:=hid (OU.out.kept (fun k hk=>b5.block k (OU.out.lt k hk)));have k0:=K5.out.cell (i:=0) rfl;have k1:=K5.out.cell (i:=1) rfl
  have HP3:=hid (HP2.out w5 B5.out);clear b5 HP2 HX1 OU;go_wp2_with fail
  (with_reducible refine HP3.out.mono ?_)
  rintro r w6 ⟨sv,rfl,b6,hr6⟩;have HR6:=hid hr6;clear b6 hr6 HP3;go_wp2_with fail
  (with_reducible refine HR6.out.mono ?_)
  rintro r w7 ⟨rfl,b7,z7,k7,hc7⟩;have B7:=hid b7;have K7:=hid (show Blk w7 w1.heap.size _ 154 from(k7 w1.heap.size S1.out (K5.out.lt)).trans K5.out);have OU7:=hid (OU5.out.kept (fun k hk=>k7 k (GU.out k hk) (OU5.out.lt k hk)));have Z7:=hid z7;have HC7:=hid hc7;have k0:=K7.out.cell (i:=0) rfl;have k1:=K7.out.cell (i:=1) rfl
  clear b7 z7 k7 hc7 HR6;go_wp2_with fail
  (with_reducible refine(HA.out _).mono ?_)
  rintro r w8 ⟨bl8,bf8,rfl,kb8,kf8,b8⟩;have HC8:=hid (HC7.out w8 bl8 bf8 b8 kb8 kf8);have B8:=hid b8;clear kb8 kf8 b8 HC7;go_wp2_with fail
  (with_reducible refine HC8.out.mono ?_)
  rintro r w9 hp9;obtain⟨u9,rfl,ru9,_,gu9,b9⟩:=hp9.rd;have B9:=hid (B8.out.trans (b9.mono B8.out.size));have RU9:=hid ru9;have GU9:=hid gu9
  have OU9:=hid (OU7.out.kept (fun k hk=>B9.out.block k (OU7.out.lt k hk)));clear hp9 ru9 gu9 b9 HC8;go_wp2_with (at_builtin;refine Qc _ rfl _ _ 186 rfl 194 i0 _ 2 16 underlying186 I.out.1 I.out.2.1 I.out.2.2.1 I.out.2.2.2 rfl (by decide) _ _ _ rfl (by exact OU9.out.alloc _) _ 1 (prC [(7,3)]) rfl (by exact Ql.newAt _ _ _ 2 1 _ rfl rfl) (by simp[prC,Value.oneCell']) (by unfold maxLen;omega) (by omega) ?_)
  rintro va wa oa ga aa _;have RUA:=hid ((RU9.out.alloc _).kept (fun k hk hlt=>ga.block k hlt (fun e=>by
   have h1:=GU9.out k hk;have h2:=OU7.out.lt k e.symm;have:=B8.out.size;omega)))
  have BA:=(B9.out.trans ((Qa w9 (.cells #[.int .u64 7,.int .u64 3] 194)).mono B9.out.size)).mono (show B<=w7.heap.size from Nat.le_trans HB0.out (Nat.le_trans B5.out.size Z7.out));have BB:=B7.out.trans BA;have BC:Hid (Below B w wa):=hid ⟨ga.os.trans BB.os,ga.tape.trans BB.tape,ga.output.trans BB.output,Nat.le_trans BB.size ga.size,fun k hk=>(ga.block k (by have:=BB.size;have:=HB0.out;omega) (fun e=>by have h1:=GU.out k e.symm;have:=HB0.out;omega)).trans (BB.block k hk)⟩;have RA:Hid (Ql wa 2 va (l1 ++ [(7,3)]).length (prC (l1 ++ [(7,3)]))):=hid (by
   have:=oa.rd
   rwa [<- Fw,show l1.length+1=(l1 ++ [((7:Int),(3:Int))]).length by simp]at this)
  have HE:=hid (Fs u9 va l2 (l1 ++ [(7,3)]) RUA.out RA.out (by omega) (by simp;omega));clear oa ga aa BA BB;go_wp2_with fail
  (with_reducible refine HE.out.mono ?_)
  rintro r wb ⟨rfl,bb⟩;have BD:=hid (BC.out.trans (bb.mono (Nat.le_trans HB0.out BC.out.size)));clear bb;go_wp2_with fail
  go_ret
  exact⟨by simp,BD.out⟩
end
end

section
open Go.Maps
attribute [local go_sem ↓] Go.wp_at_zero Go.wp_at_succ
def Lk(k:Int):Sup:=⟨k,48,1,1,1,0,0,0⟩
theorem Ru(k:Int)(h1:1<=k)(h2:k<=3):(Lk k).Ok:=by
 refine⟨h1,by show k<=65535;omega,?_,?_,?_,?_,?_,?_,?_,?_,?_,?_,?_,?_,?_⟩ <;> simp[Lk,Sup.rest]
def Ts:List (Nat×Nat×Int):=Gc++sbP ((Lk 1).withGen 1) 0
def gSb(n:Nat)(F:Nat->Int)(e:Bool):Bool:=Np F n&&(decide ((Vn F n).ver=2) || (!e&&decide ((Vn F n).ver=1)))&&decide ((Vn F n).gen≠18446744073709551615)
section
variable{w:World}{v:DV}{own:Nat->Option Qp}{D:Dev}{g:Nat}
def Pn(w:World)(g:Nat):Prop:=Blk w g #[.func (.func 80) #[] #[]] 131
theorem Pn.below{w':World}(h:Pn w g)(hb:Below w.heap.size w w'):Pn w' g:=Blk.below h hb
theorem Pn.cell(h:Pn w g):w.cell? ⟨g,0,none⟩=some (.func (.func 80) #[] #[]):=Blk.cell h rfl
theorem Bw(k:Int):Calls prog 80 #[.int .i64 k] w fun r w'=>r = .returned (.agg (Lk k).cells)/\Below w.heap.size w w':=by
 go_enter func80,ntmps80
 go_wp2_with fail
 refine bodyPost_ret (v:=.agg (Lk k).cells) (by simp[results,results80,go_sem,Sup.cells,Lk]) rfl ⟨rfl,?_⟩
 exact Qa _ _
theorem Qoq(hN:Nib w)(hg:Pn w g)(h:IsDev w v own D)(he:D.err 0=0)(hn:48<=D.n)(hx:D.exec+100000<4294967296) :
  Calls prog 81 #[(.iface 40 (.pointer (some ⟨v.tb 0,0,none⟩))),.pointer (some ⟨g,0,none⟩)] w fun r w'=>r = .returned (.int .i64 ((D.run 0 Ts).err 0))/\Qr v own w (D.run 0 Ts) w':=by
 have H1:=hid (Bw (w:=w) 1);have H2:=hid (fun(wx:World) (hb:Below w.heap.size w wx)=>Qdu (hN.below hb) (h.below hb) (j:=0) (by omega) he (by omega) (Lk 1) (Ru 1 (by omega) (by omega)) (by show(48:Int)<=(D.n:Int);omega) hx);have c0:=hg.cell;clear hN hg h he hn hx
 go_enter func81,ntmps81
 go_wp2_with fail
 (with_reducible refine H1.out.mono ?_)
 rintro r w1 ⟨rfl,b1⟩;have B1:=hid b1;have H3:=hid (H2.out w1 b1);clear b1 H2;go_wp2_with fail
 (with_reducible refine H3.out.mono ?_)
 rintro r w2 ⟨rfl,p2⟩;have P2:=hid (p2.past B1.out);clear p2
 go_wp2_with fail
 go_ret
 exact⟨rfl,P2.out⟩
theorem Qor(hN:Nib w)(hg:Pn w g)(h:IsDev w v own D)(hof:D.off=false)(he:D.err 0=0)(hvb:D.VB)(hn:48<=D.n) :
  Calls prog 83 #[(.iface 40 (.pointer (some ⟨v.tb 0,0,none⟩))),.pointer (some ⟨g,0,none⟩)] w (Qlk w D.cur D.n (Lk 2)):=by
 have H1:=hid (Bw (w:=w) 2);have H2:=hid (fun(wx:World) (hb:Below w.heap.size w wx)=>Lg (hN.below hb) (h.below hb) (j:=0) (by omega) hof he hvb (by omega) (Lk 2) (Ru 2 (by omega) (by omega)) (by show(48:Int)<=(D.n:Int);omega) (by decide) (by decide));have c0:=hg.cell;clear hN hg h he hn hof hvb
 go_enter func83,ntmps83
 go_wp2_with fail
 (with_reducible refine H1.out.mono ?_)
 rintro r w1 ⟨rfl,b1⟩;have B1:=hid b1;have H3:=hid (H2.out w1 b1);clear b1 H2;go_wp2_with fail
 (with_reducible refine H3.out.mono ?_)
 rintro r w2 (⟨h1,rfl,b2⟩ | ⟨h1,h2,rfl,b2⟩ | ⟨h1,h2,ov,rfl,a2⟩)
 ·have HH:=hid h1
  have B2:=hid (B1.out.trans (b2.mono B1.out.size));clear b2 h1
  go_wp2_with fail
  go_ret2
  exact .inl ⟨HH.out,rfl,B2.out⟩
 ·have HH:=hid (And.intro h1 h2)
  have B2:=hid (B1.out.trans (b2.mono B1.out.size));clear b2 h1 h2
  go_wp2_with fail
  go_ret2
  exact .inr (.inl ⟨HH.out.1,HH.out.2,rfl,B2.out⟩)
 ·have HH:=hid (And.intro h1 h2)
  have A2:=hid (a2.deeper B1.out);clear a2 h1 h2
  go_wp2_with fail
  go_ret2
  exact .inr (.inr ⟨HH.out.1,HH.out.2,_,rfl,A2.out⟩)
theorem Nib.above{w':World}{B:Nat}(h:Nib w)(hb:Below B w w')(h0:0<B):Nib w':=fun i hi=>(hb.cell (p:=⟨0,i,none⟩) h0).trans (h i hi)
theorem Qp2{n x:Nat}{F:Nat->Int}(hS:SCl D 0 n F x)(hG:Np F n=true)(hg:0<=(Vn F n).gen/\(Vn F n).gen<18446744073709551616)(hg1:(Vn F n).gen≠18446744073709551615)(ha:Kz F n<=1)(hn:48<=n) :
  ∃ C,SCl (D.run 0 (sbP ((Lk 3).withGen ((Vn F n).gen+1)) (1-Kz F n))) 0 n C (x+19)/\opS C n=(Lk 3).withGen ((Vn F n).gen+1)/\opE C n=0:=by
 have hok:=Ru 3 (by omega) (by omega);have hok2:=hok.withGen ((Vn F n).gen+1);have hft:=hok2.fits (by show 0<=(Vn F n).gen+1;omega) (by show(Vn F n).gen+1<_;omega);have C1:=hS.prog hft (i:=1-Kz F n) (by omega);obtain⟨u1,u2⟩:=Qvd ((Lk 3).withGen ((Vn F n).gen+1)) (1-Kz F n) F;obtain⟨n1,n2,n3⟩:=Qjy ((Lk 3).withGen ((Vn F n).gen+1)) hok2 F _ (n:=n) (by show(48:Int)<=(n:Int);omega) hG (by show _<(Vn F n).gen+1;omega) (by show 0<=(Vn F n).gen+1;omega) u1 (u2 (Kz F n) (by omega));refine⟨_,C1,?_,?_⟩
 ·unfold opS;rw[n1,n2];rfl
 ·unfold opE;rw[n1];rfl
theorem Qos{n B x:Nat}{F:Nat->Int}(hN:Nib w)(hg:Pn w g)(P:Pst B w v D own w)(h0:0<B)(_h1:g<B)(hS:SCl D 0 n F x)(hn:64<=n)(hx:x<=1000)(e:Bool) :
  Calls prog 84 #[(.iface 40 (.pointer (some ⟨v.tb 0,0,none⟩))),.bool e,.pointer (some ⟨g,0,none⟩)] w fun r w'=>r = .returned (.bool (gSb n F e))/\Below B w w':=by
 have hcu:=hS.cur;have hdn:D.n=n:=hS.grp.on.n;have hex:=hS.exec;have HO:=hid (Tb hN P.dev (j:=0) (by omega) hS.grp.on.off hS.grp.on.err hS.vb (by omega));rw[hcu,hdn]at HO;have HM:Hid (∀ wx,Calls prog 80 #[.int .i64 3] wx fun r w'=>r = .returned (.agg (Lk 3).cells)/\Below wx.heap.size wx w'):=hid (fun wx=>Bw (w:=wx) 3);have HG0:=Qmb hS.bd n (Kz F n);have HA:=Qxw F n;have HGN:0<=(Vn F n).gen/\(Vn F n).gen<18446744073709551616:=HG0;have HB0:=hid P.size;have HUA:=fun(wx:World) (hb:Below w.heap.size w wx)=>Qdv (hN.below hb) (P.next hb).dev (j:=0) (by omega) hS.grp.on.off hS.grp.on.err hS.vb (by omega) (Lk 3) (Ru 3 (by omega) (by omega)) (by show(48:Int)<=(D.n:Int);omega) (by decide) (by decide) (by omega)
 have HGC:Hid (∀ wx,Below w.heap.size w wx->wx.cell? ⟨g,0,none⟩=some (.func (.func 80) #[] #[])):=hid (fun wx hb=>(hg.below hb).cell);unfold Quv at HUA;rw[hcu,hdn]at HUA
 cases hnew:Np F n
 ·have e1:opS F n=Sup.zero:=by unfold opS;rw[hnew];rfl
  have e2:opE F n=10:=by unfold opE;rw[hnew];rfl
  have e3:gSb n F e=false:=by unfold gSb;rw[hnew];rfl
  rw[e1,e2]at HO;rw[e3];unfold Sup.zero Sup.cells at HO;clear hN hg P hS HUA HG0 HA HGN hcu hdn hex e1 e2 e3 hnew HGC
  go_enter func84,ntmps84
  go_wp2_with fail
  (with_reducible refine HO.out.mono ?_)
  rintro r w1 ⟨rfl,b1⟩;have B1:=hid ((b1.mono HB0.out).trans ((Qa w1 (.cells #[.int .i64 0,.int .i64 0,.int .i64 0,.int .i64 0,.int .i64 0,.int .i64 0,.int .i64 0,.int .u64 0] 130)).mono (Nat.le_trans HB0.out b1.size)));clear b1;go_wp2_with fail
  go_ret
  exact⟨rfl,B1.out⟩
 ·have e1:opS F n=Vn F n:=by unfold opS;rw[hnew];rfl
  have e2:opE F n=0:=by unfold opE;rw[hnew];rfl
  have e3:gSb n F e=((decide ((Vn F n).ver=2) || (!e&&decide ((Vn F n).ver=1)))&&decide ((Vn F n).gen≠18446744073709551615)):=by unfold gSb;rw[hnew];rfl
  have HUG:Hid ((Vn F n).gen≠18446744073709551615->∃ G,∀ wx,Below w.heap.size w wx->Calls prog 86 #[(.iface 40 (.pointer (some ⟨v.tb 0,0,none⟩))),.agg (Lk 3).cells] wx fun r w'=>r = .returned (.int .i64 0)/\(∀ k,w.heap.size<=k->k<wx.heap.size->w'.heap[k]? = wx.heap[k]?)/\wx.heap.size<=w'.heap.size/\Below B w w' /\
    Calls prog 85 #[(.iface 40 (.pointer (some ⟨v.tb 0,0,none⟩)))] w' fun r w2=>r = .returned (.tuple #[.agg #[.int .i64 3,.int .i64 48,.int .i64 1,.int .i64 1,.int .i64 1,.int .i64 0,.int .i64 0,.int .u64 G],.int .i64 0])/\Below w'.heap.size w' w2):=hid (fun hg1=>by
   obtain⟨C,c1,c2,c3⟩:=Qp2 hS hnew HGN hg1 HA (by omega);refine⟨(Vn F n).gen+1,fun wx hb=>(HUA wx hb).mono fun r w' hp => ?_⟩
   rcases hp with ⟨k,_⟩ | ⟨_,k,_⟩ | ⟨_,_,k,d⟩
   ·rw[hnew]at k;cases k
   ·exact absurd k hg1
   ·have dd:=d
    obtain⟨own2,P2⟩:=(P.next hb).post d;obtain⟨_,_,_,u⟩:=dd;refine⟨by rw[k,c1.grp.on.err],fun i hi1 hi2=>u.block i hi2 (fun ho => ?_),u.size,P2.bel,?_⟩
    ·have:=P.dev.lt i ho;omega
    ·have:=Tb (hN.above P2.bel h0) P2.dev (j:=0) (by omega) c1.grp.on.off c1.grp.on.err c1.vb (by rw[c1.grp.on.n];omega)
     rw[c1.cur,c1.grp.on.n,c2,c3]at this;exact this)
  have HUB:Hid ((Vn F n).gen=18446744073709551615->∀ wx,Below w.heap.size w wx->Calls prog 86 #[(.iface 40 (.pointer (some ⟨v.tb 0,0,none⟩))),.agg (Lk 3).cells] wx fun r w'=>r = .returned (.int .i64 9)/\Below wx.heap.size wx w'):=hid (fun hg1 wx hb=>(HUA wx hb).mono fun r w' hp=>by
   rcases hp with ⟨k,_⟩ | ⟨_,_,k⟩ | ⟨_,k,_⟩
   ·rw[hnew]at k;cases k
   ·exact k
   ·exact absurd hg1 k)
  rw[e1,e2]at HO;rw[e3];clear HUA HG0 HA HGN;obtain⟨s1,hs1⟩:∃ s1,Vn F n=s1:=⟨_,rfl⟩;rw[hs1]at HO HUG HUB ⊢;obtain⟨ver,lin,redo,und,desc,que,tab,gen⟩:=s1;unfold Sup.cells at HO;simp only at HO HUG HUB ⊢;clear hN hg P hS hcu hdn hex e1 e2 e3 hnew hs1 h0 hn hx;have hcv:((ver=1/\e=true)\/(¬ ver=2/\¬ ver=1))\/(ver=2)\/(ver=1/\e=false):=by cases e <;> simp <;> omega
  rcases hcv with (⟨hv,he⟩ | ⟨hv1,hv2⟩) | hv
  case' inl.inl=>
   have hb2:(ver != 2)=true:=by simp;omega
   have hb1:(ver != 1)=false:=by simp;omega
   subst he
  case' inl.inr=>
   have hb2:(ver != 2)=true:=by simp;omega
   have hb1:(ver != 1)=true:=by simp;omega
  iterate 2
   ·clear HUG HUB HGC
    go_enter func84,ntmps84
    go_wp2_with fail
    (with_reducible refine HO.out.mono ?_)
    rintro r w1 ⟨rfl,b1⟩;have B2:Hid (∀ c,Below B w (w1.alloc (.cells c 130))):=hid (fun c=>(b1.trans ((Qa w1 _).mono b1.size)).mono HB0.out);have K1:=hid (fun c=>Blk.new w1 c 130);have c0:=(K1.out #[.int .i64 ver,.int .i64 lin,.int .i64 redo,.int .i64 und,.int .i64 desc,.int .i64 que,.int .i64 tab,.int .u64 gen]).cell (i:=0) rfl;clear b1;go_wp2_with fail
    all_goals
     go_ret
     exact⟨by simp[*],B2.out _⟩
  ·have hgn:gen=18446744073709551615\/gen≠18446744073709551615:=by omega
   have hver:(decide (ver=2) || (!e&&decide (ver=1)))=true:=by rcases hv with rfl | ⟨rfl,rfl⟩ <;> simp
   rw[hver];clear hver
   rcases hv with hv | ⟨hv,rfl⟩
   case' inl=>have hb2:(ver != 2)=false:=by simp;omega
   case' inr=>
    have hb2:(ver != 2)=true:=by simp;omega
    have hb1:(ver != 1)=false:=by simp;omega
   all_goals
    clear hv
    rcases hgn with hgn | hgn
    ·have HU1:=hid (HUB.out hgn)
     have HGE:=hid hgn;clear HUG HUB hgn
     go_enter func84,ntmps84
     go_wp2_with fail
     (with_reducible refine HO.out.mono ?_)
     rintro r w1 ⟨rfl,b1⟩;have B2:Hid (∀ c,Below w.heap.size w (w1.alloc (.cells c 130))):=hid (fun c=>b1.trans ((Qa w1 _).mono b1.size));have K1:=hid (fun c=>Blk.new w1 c 130);have c0:=(K1.out #[.int .i64 ver,.int .i64 lin,.int .i64 redo,.int .i64 und,.int .i64 desc,.int .i64 que,.int .i64 tab,.int .u64 gen]).cell (i:=0) rfl;have d0:=HGC.out _ (B2.out #[.int .i64 ver,.int .i64 lin,.int .i64 redo,.int .i64 und,.int .i64 desc,.int .i64 que,.int .i64 tab,.int .u64 gen]);clear b1;go_wp2_with fail
     (with_reducible refine(HM.out _).mono ?_)
     rintro r w2 ⟨rfl,b2⟩;have B3:=hid ((B2.out _).trans (b2.mono (B2.out _).size));have HU2:=hid (HU1.out w2 B3.out);clear b2 HU1;go_wp2_with fail
     (with_reducible refine HU2.out.mono ?_)
     rintro r w3 ⟨rfl,b3⟩;have B4:=hid ((B3.out.trans (b3.mono B3.out.size)).mono HB0.out);clear b3;go_wp2_with fail
     go_ret
     exact⟨by simp[HGE.out],B4.out⟩
    ·obtain⟨G,HU0⟩:=HUG.out hgn
     have HU1:=hid HU0;have HGE:=hid hgn;clear HUG HUB HU0 hgn
     go_enter func84,ntmps84
     go_wp2_with fail
     (with_reducible refine HO.out.mono ?_)
     rintro r w1 ⟨rfl,b1⟩;have B2:Hid (∀ c,Below w.heap.size w (w1.alloc (.cells c 130))):=hid (fun c=>b1.trans ((Qa w1 _).mono b1.size));have K1:=hid (fun c=>Blk.new w1 c 130);have c0:=(K1.out #[.int .i64 ver,.int .i64 lin,.int .i64 redo,.int .i64 und,.int .i64 desc,.int .i64 que,.int .i64 tab,.int .u64 gen]).cell (i:=0) rfl;have d0:=HGC.out _ (B2.out #[.int .i64 ver,.int .i64 lin,.int .i64 redo,.int .i64 und,.int .i64 desc,.int .i64 que,.int .i64 tab,.int .u64 gen]);have SZ:=hid b1.size;clear b1;go_wp2_with fail
     (with_reducible refine(HM.out _).mono ?_)
     rintro r w2 ⟨rfl,b2⟩;have B3:=hid ((B2.out _).trans (b2.mono (B2.out _).size));have HU2:=hid (HU1.out w2 B3.out);have K2:=hid ((K1.out _).below b2);have SZ2:=hid b2.size;clear b2 HU1 c0 d0;go_wp2_with fail
     (with_reducible refine HU2.out.mono ?_)
     rintro r w3 ⟨rfl,k3,z3,b3,h3⟩;have K3:=hid (show Blk w3 w1.heap.size _ 130 from(k3 w1.heap.size SZ.out (by have:=SZ2.out;simp at this;omega)).trans K2.out);have B4:=hid b3;have H3:=hid h3
     clear k3 z3 b3 h3 HU2;go_wp2_with fail
     (with_reducible refine H3.out.mono ?_)
     rintro r w4 ⟨rfl,b4⟩;have K4:=hid (K3.out.below b4);have B5:=hid (B4.out.trans (b4.mono (Nat.le_trans HB0.out B4.out.size)));have c0:=K4.out.cell (i:=0) rfl;have c1:=K4.out.cell (i:=1) rfl;have c2:=K4.out.cell (i:=2) rfl;have c3:=K4.out.cell (i:=3) rfl
     have c4:=K4.out.cell (i:=4) rfl;have c5:=K4.out.cell (i:=5) rfl;have c6:=K4.out.cell (i:=6) rfl;have c7:=K4.out.cell (i:=7) rfl
     have f0:=K4.out.frozen 0;have f1:=K4.out.frozen 1;have f2:=K4.out.frozen 2;have f3:=K4.out.frozen 3
     have f4:=K4.out.frozen 4;have f5:=K4.out.frozen 5;have f6:=K4.out.frozen 6;have f7:=K4.out.frozen 7
     have hs:=Nat.le_trans HB0.out SZ.out;clear b4;go_wp2_with fail
     go_ret
     refine⟨by simp[HGE.out],?_⟩
     exact(((((((B5.out.setCell hs _).setCell hs _).setCell hs _).setCell hs _).setCell hs _).setCell hs _).setCell hs _).setCell hs _
end
end

section
open Go.Maps
structure Ut(w:World)(v:DV)(own:Nat->Option Qp)(D:Dev)(lb j off len:Nat):Prop where
 dev:IsDev w v own D
 blk:Blk w lb #[.iface 40 (.pointer (some ⟨v.tb j,0,none⟩)),.int .u64 off,.int .u64 len] 206
 ob:own lb=none
 hj:j<8
 n26:1664<=len
 o64:off%64=0
 l64:len%64=0
 fit:off+len<=64*D.n
def Qgw(w:World)(e:Int)(r:Ending)(w':World):Prop:=r = .returned (.tuple #[.slice none 0 0,.int .i64 e])/\Below w.heap.size w w'
def Tv(w:World)(e:Int)(r:Ending)(w':World):Prop:=r = .returned (.tuple #[.pointer none,.int .i64 e])/\Below w.heap.size w w'
def Ve(w:World)(v:DV)(own:Nat->Option Qp)(D:Dev)(j off len:Nat)(r:Ending)(w':World):Prop:=
 r = .returned (.tuple #[.pointer (some ⟨w.heap.size,0,none⟩),.int .i64 0])/\Ut w' v own D w.heap.size j off len/\Below w.heap.size w w'
theorem Qdb(a:Addr)(w:World):(nilAhead 461 40 (.pointer (some a)) "Load").run prog w = .ok (some false) w:=by kernel_rfl
section
variable{w:World}{v:DV}{own:Nat->Option Qp}{D:Dev}{lb j off len:Nat}
theorem Ut.below{w':World}(h:Ut w v own D lb j off len)(hb:Below w.heap.size w w'):Ut w' v own D lb j off len:=⟨h.dev.below hb,h.blk.below hb,h.ob,h.hj,h.n26,h.o64,h.l64,h.fit⟩
theorem Ut.alloc(h:Ut w v own D lb j off len)(o:Obj):Ut (w.alloc o) v own D lb j off len:=h.below (Qa w o)
theorem Ut.drew(h:Ut w v own D lb j off len):Ut w.drew v own D lb j off len:=h.below ((Below.refl _ _).drew)
theorem Ut.c0(h:Ut w v own D lb j off len):w.cell? ⟨lb,0,none⟩=some (.iface 40 (.pointer (some ⟨v.tb j,0,none⟩))):=h.blk.cell rfl
theorem Ut.c1(h:Ut w v own D lb j off len):w.cell? ⟨lb,1,none⟩=some (.int .u64 off):=h.blk.cell rfl
theorem Ut.c2(h:Ut w v own D lb j off len):w.cell? ⟨lb,2,none⟩=some (.int .u64 len):=h.blk.cell rfl
theorem Ut.bd(h:Ut w v own D lb j off len):off+len<=262144/\D.n<=4096:=by have:=h.dev.wf.le;have:=h.fit;omega
theorem Qxp(h:Ut w v own D lb j off len)(ho:D.off=false)(hvb:D.VB)(o:Nat)(h8:o%8=0)(hl:o<64*D.n) :
  Calls prog 290 #[.pointer (some ⟨v.tb j,0,none⟩),.int .u64 o] w fun r w'=>r = .returned (.int .u64 (((D.cur (o/8)).toNat:Nat):Int))/\w=w':=by
 have:=load_ok h.dev h.hj o ho h8 hl;rw[Int.toNat_of_nonneg (hvb.cur (o/8)).1];exact this
theorem Qvj(a:Addr)(x y:Int)(h:x<0\/y<26):Calls prog 47 #[.iface 40 (.pointer (some a)),.int .i64 x,.int .i64 y] w (Tv w 1):=by
 by_cases hx:x<0
 ·go_enter func47,ntmps47
  go_wp2_with fail
  go_ret2
  exact⟨rfl,Below.refl _ _⟩
 ·have hy:y<26:=by omega
  clear h
  go_enter func47,ntmps47
  go_wp2_with fail
  go_ret2
  exact⟨rfl,Below.refl _ _⟩
theorem Qq3(h:IsDev w v own D)(hj:j<8)(x y:Nat)(hx:x<9223372036854775808)(hy:y<9223372036854775808)(h2:26<=y)(hr:D.n<x+y) :
  Calls prog 47 #[.iface 40 (.pointer (some ⟨v.tb j,0,none⟩)),.int .i64 x,.int .i64 y] w (Tv w 1):=by
 have hm1:=meth_Size ⟨v.tb j,0,none⟩;have HT:=hid (thrSize_any h hj);have hn:=h.wf.le;have hx0:¬ (x:Int)<0:=by omega
 have hy2:¬ (y:Int)<26:=by omega
 have hq:(D.n:Int)*64/64=D.n:=by omega
 clear h
 by_cases hyn:D.n<y
 ·have hyn':(D.n:Int)<y:=by omega
  go_enter func47,ntmps47
  go_wp2_with fail
  (with_reducible refine HT.out.mono ?_)
  rintro e w' ⟨rfl,rfl⟩;go_wp2_with fail
  go_ret2
  exact⟨rfl,Below.refl _ _⟩
 ·have hyn':¬ (D.n:Int)<y:=by omega
  have hxn:(D.n:Int)-y<x:=by omega
  go_enter func47,ntmps47
  go_wp2_with fail
  (with_reducible refine HT.out.mono ?_)
  rintro e w' ⟨rfl,rfl⟩;go_wp2_with fail
  go_ret2
  exact⟨rfl,Below.refl _ _⟩
theorem Wy(h:IsDev w v own D)(hj:j<8)(x y:Nat)(h2:26<=y)(hr:x+y<=D.n) :
  Calls prog 47 #[.iface 40 (.pointer (some ⟨v.tb j,0,none⟩)),.int .i64 x,.int .i64 y] w (Ve w v own D j (64*x) (64*y)):=by
 have hm1:=meth_Size ⟨v.tb j,0,none⟩;have HT:=hid (thrSize_any h hj);have hn:=h.wf.le;have H:=hid h;have hx0:¬ (x:Int)<0:=by omega
 have hy2:¬ (y:Int)<26:=by omega
 have hq:(D.n:Int)*64/64=D.n:=by omega
 have hyn':¬ (D.n:Int)<y:=by omega
 have hxn:¬ (D.n:Int)-y<x:=by omega
 have e64:(x:Int)*64=((64*x:Nat):Int):=by omega
 have f64:(y:Int)*64=((64*y:Nat):Int):=by omega
 have E64:=hid e64;have F64:=hid f64;clear h e64 f64
 go_enter func47,ntmps47
 go_wp2_with fail
 (with_reducible refine HT.out.mono ?_)
 rintro e w' ⟨rfl,rfl⟩;go_wp2_with fail
 go_ret2
 refine⟨rfl,⟨H.out.alloc _,?_,?_,hj,by omega,by omega,by omega,by omega⟩,Qa _ _⟩
 ·have:=Blk.new w #[.iface 40 (.pointer (some ⟨v.tb j,0,none⟩)),.int .u64 ((64*x:Nat):Int),.int .u64 ((64*y:Nat):Int)] 206
  rw[<- E64.out,<- F64.out]at this;have e3:=E64.out;rw[<- E64.out,<- F64.out];exact this
 ·cases ho:own w.heap.size with
  | none=>rfl
  | some r=>have:=H.out.lt w.heap.size (by rw[ho];simp);omega
theorem Sz(h:IsDev w v own D)(hj:j<8)(x y:Nat)(h2:26<=y)(hr:x+y<=D.n) :
  Calls prog 65 #[.iface 40 (.pointer (some ⟨v.tb j,0,none⟩)),.int .i64 x,.int .i64 y] w (Ve w v own D j (64*x) (64*y)):=by
 have HO:=hid (Wy h hj x y h2 hr);clear h
 go_enter func65,ntmps65
 go_wp2_with fail
 (with_reducible refine HO.out.mono ?_)
 rintro e w1 ⟨rfl,l1,b1⟩;have L1:=hid l1;have B1:=hid b1;clear l1 b1 HO
 go_wp2_with fail
 go_ret2
 exact⟨rfl,L1.out,B1.out⟩
theorem Ny(h:Ut w v own D lb j off len)(x:Int)(_hx:0<=x/\x<18446744073709551616):Calls prog 155 #[.pointer (some ⟨lb,0,none⟩),.int .u64 x] w
  fun r w'=>∃ ov,r = .returned ov/\Acc w w.heap.size w' 73 3 ov (Qe [(off,x)]).length (Qd (Qe [(off,x)])):=by
 have c1:=h.c1;have hb:=h.bd;have HS:=hid (Xd (w:=w.alloc (.cells #[.int .u64 off,.int .u64 x] 140)) (.slice (some ⟨w.heap.size,0,none⟩) 1 1) [(off,x)] (by exact Ql.new w _ _ 2 1 rfl) (by simp) (fun e he=>by simp at he;subst he;simp only;omega));clear h
 go_enter func155,ntmps155
 go_wp2_with fail
 (with_reducible refine HS.out.mono ?_)
 rintro e w1 ⟨ov,rfl,a1⟩;have A1:=hid (a1.deeper (Qa _ _));clear a1 HS
 go_wp2_with fail
 go_ret
 exact⟨_,rfl,A1.out⟩
end
end
section
open Go.Maps
theorem Qi3(offs:List Nat)(h:∀ o∈offs,o<18446744073709551616):Qz (Zs offs):=by
 intro e he;unfold Zs at he
 split at he
 ·simp at he
 ·rcases List.mem_append.1 he with h1 | h1
  ·obtain⟨l,hl,rfl⟩:=List.mem_map.1 h1
   have:=Gy offs 288230376151711744 (fun o ho=>by have:=h o ho;omega) l hl;exact⟨by simp,by simp,by simp only;omega⟩
  ·simp at h1;subst h1;exact⟨by simp,by simp,by simp⟩
theorem Ur(ws:List (Nat×Int))(h:∀ e∈ws,e.1<18446744073709551616):Qz (Qe ws):=by
 intro e he;unfold Qe at he
 rcases List.mem_append.1 he with h1 | h1
 ·obtain⟨x,hx,rfl⟩:=List.mem_map.1 h1
  exact⟨by simp,by simp,h x hx⟩
 ·exact Qi3 _ (fun o ho=>by obtain⟨x,hx,rfl⟩:=List.mem_map.1 ho;exact h x hx) e h1
theorem Uh{a b:List (Nat×Nat×Int)}(ha:Qz a)(hb:Qz b):Qz (a++b):=fun e he=>by
 rcases List.mem_append.1 he with h | h
 ·exact ha e h
 ·exact hb e h
theorem Vp(ws:List (Nat×Int)):(Qe ws).length<=2*ws.length+1:=by
 have:=Ye (ws.map (·.1));unfold Qe;rw[List.length_append,List.length_map];rw[List.length_map]at this;omega
theorem Wc(off:Nat)(x:Int):(Qe [(off,x)]).length<=3:=by have:=Vp [(off,x)];simpa using this
def VIn(V:List (Nat×Int)):Prop:=V.length<=10000/\∀ e∈V,e.1<18446744073709551616
theorem Qhz{off:Nat}{V:List (Nat×Int)}(ho:off<18446744073709551616)(hV:VIn V):Qz (Jn off V):=Uh (Ur _ hV.2) (Ur _ (fun e he=>by simp at he;subst he;exact ho))
theorem Cg(off:Nat)(V:List (Nat×Int)):(Jn off V).length<=2*V.length+4:=by
 have h1:=Vp V;have h2:=Wc off 0
 unfold Jn;rw[List.length_append];omega
theorem Hi(off:Nat)(W:List (Nat×Int)):(Zb off W).length<=6*W.length+8:=by
 unfold Zb
 split
 ·simp
 ·have h1:=Vp (Qn (off+64) W);have h2:=Wc off (Uu W:Int);have h3:=Cg off W
  rw[Nu]at h1;rw[List.length_append,List.length_append];omega
theorem Qpi{off:Nat}{W:List (Nat×Int)}(ho:off+64+16*W.length<18446744073709551616)(hV:VIn W):Qz (Zb off W):=by
 unfold Zb
 split
 ·intro e he;simp at he
 ·exact Uh (Uh (Ur _ (fun e he=>by have:=Sw W _ e he;omega)) (Ur _ (fun e he=>by simp at he;subst he;simp only;omega))) (Qhz (by omega) hV)
section
variable{w:World}{v:DV}{own:Nat->Option Qp}{D:Dev}{lb j off len:Nat}
theorem Qr.pastR{w1 w2:World}{D':Dev}(hb:Below w.heap.size w w1)(h:Qr v own w1 D' w2):Qr v own w D' w2:=Qr.next (fun _ _=>rfl) (Upd.of_below hb) h
theorem Qbb(h:IsDev w v own D)(hj:j<8){w1:World}{pv:Value}{P:List (Nat×Nat×Int)}(ha:Acc w w.heap.size w1 73 3 pv P.length (Qd P))(hi:Qz P)(hl:P.length<=100000)(hx:D.exec+100000<4294967296) :
  Calls prog 12 #[pv,.iface 40 (.pointer (some ⟨v.tb j,0,none⟩))] w1 fun r w'=>r = .returned (.int .i64 ((D.run j P).err j))/\Qr v own w (D.run j P) w':=
 (Km (h.below ha.bel) hj pv P ha.rd (fun k hk=>by
  have:=ha.new k hk
  cases ho:own k with
  | none=>rfl
  | some r=>have:=h.lt k (by rw[ho];simp);omega) hi hl (by omega)).mono fun r w' hp=>⟨hp.1,hp.2.pastR ha.bel⟩
theorem Qf8(h:IsDev w v own D)(hj:j<8)(x y:Nat)(h2:26<=y)(hr:x+y<=D.n)(he:D.err j=0)(hx:D.exec+100000<4294967296) :
  Calls prog 100 #[.iface 40 (.pointer (some ⟨v.tb j,0,none⟩)),.int .i64 x,.int .i64 y] w fun r w'=>r = .returned (.int .i64 ((D.run j (Qe [(64*x,0)])).err j))/\Qr v own w (D.run j (Qe [(64*x,0)])) w':=by
 have HO:=hid (Wy h hj x y h2 hr);have hm1:=meth_Err ⟨v.tb j,0,none⟩;have hn:=h.wf.le;have hE:=fun wx (hx:IsDev wx v own D)=>err_any hx hj
 rw[he]at hE;have HE:=hid hE;have HR:=hid (fun(w1 w2:World) pv (hb:IsDev w1 v own D) ha=>Qbb (w:=w1) hb hj (w1:=w2) (pv:=pv) (P:=Qe [(64*x,0)]) ha (Ur _ (fun e he=>by simp at he;subst he;simp only;omega)) (by have:=Wc (64*x) 0;omega) hx);clear h hE
 go_enter func100,ntmps100
 go_wp2_with fail
 (with_reducible refine HO.out.mono ?_)
 rintro e w1 ⟨rfl,l1,b1⟩;have L1:=hid l1;have B1:=hid b1;clear l1 b1 HO
 have HM:=hid (Ny L1.out 0 (by omega));go_wp2_with fail
 (with_reducible refine(HE.out _ L1.out.dev).mono ?_)
 rintro e w' ⟨rfl,rfl⟩;go_wp2_with fail
 (with_reducible refine HM.out.mono ?_)
 rintro e w2 ⟨ov,rfl,a2⟩;have HR2:=hid (HR.out w1 w2 ov L1.out.dev a2);obtain⟨oa,oc,hov⟩:=a2.slice;subst hov;clear a2 HM HR;go_wp2_with fail
 (with_reducible refine HR2.out.mono ?_)
 rintro e w3 ⟨rfl,p3⟩;have P3:=hid (p3.pastR B1.out);clear p3
 go_wp2_with fail
 go_ret
 exact⟨rfl,P3.out⟩
end
end
end Go.Proofs.YtlhchkajjpefmaaGreatDoor
