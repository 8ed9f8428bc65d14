/- Lemmas and walks, part 24: each theorem says what it proves; no condition beside its own. -/
import Derived.Test.YtlhchkajjpefmaaGreatDoorK23
set_option maxHeartbeats 16000000
set_option maxRecDepth 100000
namespace Go.Proofs.YtlhchkajjpefmaaGreatDoor
open Lib(hid)
open Go.RowKit Go.Proofs.Tryz
section
open Go.Maps
attribute [local go_sem ↓] Go.wp_at_zero Go.wp_at_succ
def udF(C:Nat->Int):List (Nat×Int) := [(2560,C 320),(2624,C 328)]
def Ji(C:Nat->Int):List (Nat×Nat×Int):=Qe (Qs 704 (udF C))++Qe [(640,2)]
def Yp(a b:Int):List (Nat×Nat×Int) := [(1,2560,a),(1,2624,b)]
def Qh7:List (Nat×Nat×Int):=Zs [2560,2624]++Qe [(640,0)]
def udP(a b:Int)(C:Nat->Int):List (Nat×Nat×Int):=Ji C++(Yp a b++Qh7)
theorem Q3k(a b:Int)(C:Nat->Int):udP a b C=(Qe (Qs 704 (udF C))++Qe [(640,2)])++(Qe (rdW a b)++Qe [(640,0)]):=by
 unfold udP Ji Qh7 Yp;have:Qe (rdW a b) = [(1,2560,a),(1,2624,b)]++Zs [2560,2624]:=rfl;rw[this];simp only[List.append_assoc]
theorem Vg(C:Nat->Int):Qs 704 (udF C) = [(704,2560),(712,C 320),(720,2624),(728,C 328)]:=by simp[Qs,udF]
def Qbu(C:Nat->Int)(i:Nat):Int:=Qu [(640,2)] (Qu (Qs 704 (udF C)) (C i) i) i
def Ds(a b:Int)(C:Nat->Int)(i:Nat):Int:=Qu [(640,0)] (Qu (rdW a b) (Qbu C i) i) i
theorem Q3i(a b:Int)(C:Nat->Int):Ds a b C 320=a:=by simp[Ds,Qu,rdW]
theorem Q3j(a b:Int)(C:Nat->Int):Ds a b C 328=b:=by simp[Ds,Qu,rdW]
theorem Qqi(a b:Int)(C:Nat->Int):Ds a b C 80=0:=by simp[Ds,Qu]
theorem Wb{C:Nat->Int}(h:C 80=0):Qk C 640 2 = []:=by simp[Qk,Qip,Vs,h]
theorem Lm(a b:Int)(C:Nat->Int)(_hC:∀ i,0<=C i/\C i<18446744073709551616):Qk (Xj (Yp a b) (Qbu C)) 640 2=udF C:=by
 have h0:Xj (Yp a b) (Qbu C) 80=2:=by simp[Xj,Yp,Qbu,Qu]
 have h1:Xj (Yp a b) (Qbu C) 88=2560:=by simp[Xj,Yp,Qbu,Qu,Vg]
 have h2:Xj (Yp a b) (Qbu C) 89=C 320:=by simp[Xj,Yp,Qbu,Qu,Vg]
 have h3:Xj (Yp a b) (Qbu C) 90=2624:=by simp[Xj,Yp,Qbu,Qu,Vg]
 have h4:Xj (Yp a b) (Qbu C) 91=C 328:=by simp[Xj,Yp,Qbu,Qu,Vg]
 have hc:Qip (Xj (Yp a b) (Qbu C)) 640 2=2:=by
  unfold Qip;rw[show 640/8=80 from rfl,h0]
  rfl
 unfold Qk;rw[hc];unfold Vs;simp[List.range_succ,h1,h2,h3,h4,udF]
theorem Cp(n:Nat)(hn:64<=n)(C:Nat->Int):Xo (64*n) 640 2 (udF C)=udF C:=by
 unfold Xo udF Qw;simp;omega
theorem Co(C:Nat->Int):Vv C [] [2560,2624]=udF C:=by simp[Vv,Xi,udF]
section
variable{w:World}{v:DV}{own:Nat->Option Qp}{D:Dev}{g n x:Nat}{C F:Nat->Int}
theorem Qql(h:SCl D 0 n C x)(hn:64<=n):SCl (D.run 0 (Ji C)) 0 n (Qbu C) (x+13):=by
 have hc:=h.bd;have h1:=h.stores (ws:=Qs 704 (udF C)) (by rw[Vg];simp;omega) (by rw[Vg];have:=hc 320;have:=hc 328;simp;omega);have h2:=h1.stores (ws := [(640,2)]) (by simp;omega) (by simp);unfold Ji;rw[Dev.run_append];have l1:=Zx (Qs 704 (udF C));have l2:=Zx [(640,(2:Int))];rw[Vg]at l1;simp only[List.length_cons,List.length_nil]at l1 l2;exact h2.mono (by rw[Vg];omega)
theorem Cq(h:SCl D 0 n C x)(hn:64<=n)(a b:Int)(ha:0<=a/\a<18446744073709551616)(hb:0<=b/\b<18446744073709551616):SCl (D.run 0 (udP a b C)) 0 n (Ds a b C) (x+30):=by
 have h1:=Qql h hn;have h2:=h1.stores (ws:=rdW a b) (by simp[rdW];omega) (by simp[rdW];omega);have h3:=h2.stores (ws := [(640,0)]) (by simp;omega) (by simp);rw[Q3k,Dev.run_append,Dev.run_append];unfold Ji at h3;have l1:=Zx (rdW a b);have l2:=Zx [(640,(0:Int))];simp only[rdW,List.length_cons,List.length_nil]at l1 l2;exact h3.mono (by simp only[rdW];omega)
theorem Pst.go{B:Nat}{w0 w':World}{D':Dev}{own':Nat->Option Qp}(P:Pst B w0 v D own w)(d:IsDev w' v own' D')(o:∀ k,k<w.heap.size->own' k=own k)(u:Upd (fun k=>own k≠none) w w'):Pst B w0 v D' own' w':=by
 have hb:=Qr.above (⟨own',d,o,u⟩:Qr v own w D' w') P.ab P.size;refine⟨d,fun k hk => ?_,P.bel.trans hb,P.le⟩
 by_cases h1:k<w.heap.size
 ·rw[o k h1]at hk;exact P.ab k hk
 ·have:=P.size;omega
theorem LogAt.go{w':World}{D':Dev}{own':Nat->Option Qp}{lb j off m:Nat}(h:LogAt w v own D lb j off m)(d:IsDev w' v own' D')(o:∀ k,k<w.heap.size->own' k=own k)(u:Upd (fun k=>own k≠none) w w')(hn:D'.n=D.n):LogAt w' v own' D' lb j off m:=by
 have hlt:lb<w.heap.size:=h.blk.lt;exact⟨d,(u.block lb hlt (fun k=>k h.ob)).trans h.blk,by rw[o lb hlt];exact h.ob,h.hj,h.n2,h.o64,by rw[hn];exact h.fit⟩
theorem Qda{B:Nat}{w0:World}(P:Pst B w0 v D own w)(hS:SCl D 0 n C x)(h0:Qk C 640 2 = [])(hn:64<=n)(hx:x<=100000)(a b:Int)(ha:0<=a/\a<18446744073709551616)(hb:0<=b/\b<18446744073709551616) :
  Calls prog 106 #[(.iface 40 (.pointer (some ⟨v.tb 0,0,none⟩))),.int .u64 a,.int .u64 b] w fun r w'=>r = .returned (.int .i64 0)/\∃ own',Pst B w0 v (D.run 0 (udP a b C)) own' w':=by
 have hdn:D.n=n:=hS.grp.on.n;have hcu:=hS.cur;have hex:=hS.exec;have HO:Hid (Calls prog 49 #[(.iface 40 (.pointer (some ⟨v.tb 0,0,none⟩))),.int .i64 10,.int .i64 2] w (OpenPostU w v own D 0 640 2)):=hid (uOpen_ok P.dev (j:=0) (by omega) 10 2 (by omega) (by omega));have hS1:=Qql hS hn;have hS2:=Cq hS hn a b ha hb;have hO1:=hS1.onC;have hO2:=hO1.step (e:=(1,2560,a)) ⟨by simp,by simp,by simp,by simp only;omega,ha.1,ha.2⟩;have hO3:=hO2.step (e:=(1,2624,b)) ⟨by simp,by simp,by simp,by simp only;omega,hb.1,hb.2⟩;have hC3:((D.run 0 (Ji C)).step 0 (1,2560,a)).step 0 (1,2624,b)=D.run 0 (Ji C++Yp a b):=by rw[Dev.run_append];rfl
 have HSV:Hid (∀ (wx:World) (lb:Nat) (sv:Value),Below w.heap.size w wx->LogAt wx v own D lb 0 640 2->Ql wx 1 sv [2560,2624].length (Zw [2560,2624])->Calls prog 107 #[.pointer (some ⟨lb,0,none⟩),sv] wx fun r w'=>r = .returned (.int .i64 0) /\
   Calls prog 18 #[.pointer (some ⟨v.tb 0,0,none⟩),.int .u64 2560,.int .u64 a] w' fun r w2=>r = .returned (.tuple #[]) /\
   Calls prog 18 #[.pointer (some ⟨v.tb 0,0,none⟩),.int .u64 2624,.int .u64 b] w2 fun r w3=>r = .returned (.tuple #[]) /\
   Calls prog 108 #[.pointer (some ⟨lb,0,none⟩)] w3 fun r w4=>r = .returned (.int .i64 0)/\∃ own',Pst B w0 v (D.run 0 (udP a b C)) own' w4):=hid (fun wx lb sv hbx hl hr=>by
  have hp:=uPlan_live hl hS.grp.on.off hS.grp.on.err hS.vb sv [2560,2624] hr (by simp) (by simp) (by rw[hdn];simp[Qw];omega);rw[hcu,h0]at hp;rw[show List.map (·.1) ([]:List (Nat×Int)) = []from rfl,Co]at hp;refine(Qk2 hl sv _ _ (by omega) hp).mono ?_
  rintro r w1 (⟨k,_⟩ | ⟨_,rfl,d1⟩)
  ·simp[udF]at k
  have e1:Jf 640 ([]:List (Nat×Int)).length (udF C)=Ji C:=by unfold Jf Ji;rw[if_neg (by simp[udF])];rfl
  rw[e1]at d1 ⊢;refine⟨by rw[hS1.grp.on.err],?_⟩
  obtain⟨own1,dd1,o1,u1⟩:=d1;have P1:=(P.next hbx).go dd1 o1 u1;have L1:=hl.go dd1 o1 u1 (by rw[hS1.grp.on.n,hdn]);refine(Mf dd1 (j:=0) (by omega) 2560 a (by have:=hO1.exec;omega)).mono ?_
  rintro r w2 ⟨rfl,own2,dd2,o2,u2⟩;refine⟨rfl,?_⟩
  have dd2':IsDev w2 v own2 ((D.run 0 (Ji C)).step 0 (1,2560,a)):=dd2;have P2:=P1.go dd2' o2 u2;have L2:=L1.go dd2' o2 u2 (by rw[hO2.dn,hO1.dn]);refine(Mf dd2' (j:=0) (by omega) 2624 b (by have:=hO2.exec;omega)).mono ?_
  rintro r w3 ⟨rfl,own3,dd3,o3,u3⟩;refine⟨rfl,?_⟩
  have dd3':IsDev w3 v own3 (((D.run 0 (Ji C)).step 0 (1,2560,a)).step 0 (1,2624,b)):=dd3;have P3:=P2.go dd3' o3 u3;have L3:=L2.go dd3' o3 u3 (by rw[hO3.dn,hO2.dn]);have hsv:Qk (((D.run 0 (Ji C)).step 0 (1,2560,a)).step 0 (1,2624,b)).cur 640 2=udF C:=by
   rw[hO3.cur];exact Lm a b C hS.bd
  have hload:=uload_any L3 hO3.off hO3.err hO3.vb;rw[hsv,hO3.dn,Cp n hn]at hload;refine(Qgt L3 (udF C) (udF C) hload ⟨by simp[udF],by simp[udF]⟩ (Nat.le_refl _) (by have:=hO3.exec;omega)).mono ?_
  rintro r w4 ⟨rfl,d4⟩;have e4:(((D.run 0 (Ji C)).step 0 (1,2560,a)).step 0 (1,2624,b)).run 0 (Zt 640 (udF C) (udF C))=D.run 0 (udP a b C):=by
   rw[hC3,<- Dev.run_append];unfold udP;rw[List.append_assoc]
   rfl
  rw[e4]at d4 ⊢;exact⟨by rw[hS2.grp.on.err],P3.post d4⟩)
 have R0:Hid (∀ wx:World,Ql (wx.alloc (.cells #[.int .u64 2560,.int .u64 2624] 31)) 1 (.slice (some ⟨wx.heap.size,0,none⟩) 2 2) [2560,2624].length (Zw [2560,2624])):=hid (fun wx=>Ql.new wx #[.int .u64 2560,.int .u64 2624] 31 1 2 rfl);have hm:=Fv ⟨v.tb 0,0,none⟩;clear P hS h0 hn hx ha hb hdn hcu hex hS1 hS2 hO1 hO2 hO3 hC3;unfold OpenPostU at HO
 go_enter func106,ntmps106
 go_wp2_with fail
 (with_reducible refine HO.out.mono ?_)
 rintro r w1 ⟨rfl,l1,b1⟩;have HV:=hid (HSV.out (w1.alloc (.cells #[.int .u64 2560,.int .u64 2624] 31)) w.heap.size _ (b1.trans ((Qa _ _).mono b1.size)) (l1.alloc _) (R0.out w1));clear l1 b1 HO HSV;go_wp2_with fail
 (with_reducible refine HV.out.mono ?_)
 rintro r w2 ⟨rfl,h2⟩;have H2:=hid h2;clear h2 HV
 go_wp2_with fail
 (with_reducible refine H2.out.mono ?_)
 rintro r w3 ⟨rfl,h3⟩;have H3:=hid h3;clear h3 H2
 go_wp2_with fail
 (with_reducible refine H3.out.mono ?_)
 rintro r w4 ⟨rfl,h4⟩;have H4:=hid h4;clear h4 H3
 go_wp2_with fail
 (with_reducible refine H4.out.mono ?_)
 rintro r w5 ⟨rfl,h5⟩;have H5:=hid h5;clear h5 H4
 go_wp2_with fail
 go_ret
 exact⟨rfl,H5.out⟩
def Po(w:World)(g:Nat):Prop:=Blk w g #[.func (.func 106) #[] #[]] 178
theorem Po.below{w':World}(h:Po w g)(hb:Below w.heap.size w w'):Po w' g:=Blk.below h hb
theorem Po.cell(h:Po w g):w.cell? ⟨g,0,none⟩=some (.func (.func 106) #[] #[]):=Blk.cell h rfl
theorem Po.above{w':World}{B:Nat}(h:Po w g)(hb:Below B w w')(h0:g<B):Po w' g:=(hb.block g h0).trans h
def Mj:List (Nat×Nat×Int):=udP 1 2 (fun _=>0)
theorem Qou{B:Nat}(hg:Po w g)(P:Pst B w v D own w)(hS:SCl D 0 n (fun _=>0) x)(hn:64<=n)(hx:x<=1000) :
  Calls prog 109 #[(.iface 40 (.pointer (some ⟨v.tb 0,0,none⟩))),.pointer (some ⟨g,0,none⟩)] w fun r w'=>r = .returned (.int .i64 0)/\∃ own',Pst B w v (D.run 0 Mj) own' w':=by
 have H:Hid (Calls prog 106 #[(.iface 40 (.pointer (some ⟨v.tb 0,0,none⟩))),.int .u64 1,.int .u64 2] w fun r w'=>r = .returned (.int .i64 0)/\∃ own',Pst B w v (D.run 0 Mj) own' w'):=hid (Qda P hS (Wb rfl) hn (by omega) 1 2 (by omega) (by omega));have c0:=hg.cell;clear P hS hn hx hg
 go_enter func109,ntmps109
 go_wp2_with fail
 (with_reducible refine H.out.mono ?_)
 rintro r w1 ⟨rfl,p1⟩;have P1:=hid p1;clear p1
 go_wp2_with fail
 go_ret
 exact⟨rfl,P1.out⟩
def udV(n:Nat)(F:Nat->Int):List (Nat×Int):=Xo (64*n) 640 2 (Qk F 640 2)
def Ia(n:Nat)(F:Nat->Int):Nat->Int:=if Qk F 640 2 = []then F else fun i=>Qu [(640,0)] (Qu (udV n F) (F i) i) i
def gUd(n:Nat)(F:Nat->Int)(e:Bool):Bool:=
 (!e || decide ((Qk F 640 2).length=0))&&((decide (Ia n F 320=3)&&decide (Ia n F 328=4)) || (!e&&(decide (Ia n F 320=1)&&decide (Ia n F 328=2))))
theorem Qqm:Qk (Ia n F) 640 2 = []:=by
 unfold Ia
 split
 ·assumption
 ·exact Wb (by simp[Qu])
theorem Q3m(hF:∀ i,0<=F i/\F i<18446744073709551616):(udV n F).length<=4/\∀ e∈udV n F,e.1%8=0/\e.1<64*n/\0<=e.2/\e.2<18446744073709551616:=by
 have h1:=Lp (64*n) 640 2 (Qk F 640 2);have h2:=Ar F 640 2;have h3:(Qk F 640 2).length=Qip F 640 2:=by unfold Qk;rw[Uf]
 refine⟨by unfold udV;omega,fun e he => ?_⟩
 obtain⟨h4,h5⟩:=List.mem_filter.1 he;have h6:=Kq h5;unfold Qk Vs at h4;obtain⟨i,_,rfl⟩:=List.mem_map.1 h4;exact⟨h6.1,h6.2,hF _⟩
def Qwe(B n x:Nat)(F:Nat->Int)(w0:World)(v:DV)(r:Ending)(w':World):Prop:=
 ∃ k:Int,r = .returned (.tuple #[.int .i64 k,.int .i64 0])/\∃ (D':Dev) (own':Nat->Option Qp),SCl D' 0 n (Ia n F) (x+30)/\Pst B w0 v D' own' w'
theorem Qk3{B lb:Nat}{w0:World}(P:Pst B w0 v D own w)(hl:LogAt w v own D lb 0 640 2)(hS:SCl D 0 n F x)(hn:64<=n)(hx:x<=1000) :
  Calls prog 112 #[.pointer (some ⟨lb,0,none⟩)] w (Qwe B n x F w0 v):=by
 have hv:=Q3m (n:=n) hS.bd;have hload:=uload_any hl hS.grp.on.off hS.grp.on.err hS.vb;rw[hS.cur,hS.grp.on.n]at hload;refine(Qd3 hl (Qk F 640 2) (udV n F) hload ⟨by omega,fun e he=>by have:=hv.2 e he;have:=P.dev.wf.le;rw[hS.grp.on.n]at this;omega⟩ (by have:=hS.exec;omega)).mono fun r w' hp => ?_
 rcases hp with ⟨k1,rfl,b⟩ | ⟨k1,d,hd⟩
 ·have e:Ia n F=F:=by unfold Ia;rw[if_pos k1]
  exact⟨_,rfl,D,own,by rw[e];exact hS.mono (by omega),P.next b⟩
 ·have e:Ia n F=fun i=>Qu [(640,0)] (Qu (udV n F) (F i) i) i:=by unfold Ia;rw[if_neg k1]
  have a1:=hS.stores (ws:=udV n F) (fun e he=>⟨(hv.2 e he).1,(hv.2 e he).2.1⟩) (fun e he=>(hv.2 e he).2.2);have a2:=a1.stores (ws := [(640,0)]) (by simp;omega) (by simp);have l1:=Zx (udV n F);have l2:=Zx [(640,(0:Int))];simp only[List.length_cons,List.length_nil]at l2;have c:SCl (D.run 0 (Xq 640 (udV n F))) 0 n (Ia n F) (x+30):=by
   rw[e];unfold Xq;rw[Dev.run_append];exact a2.mono (by omega)
  obtain⟨own',P'⟩:=P.post d
  rcases hd with ⟨_,rfl⟩ | ⟨he,_⟩
  ·exact⟨_,rfl,_,own',c,P'⟩
  ·exact absurd c.grp.on.err he
theorem Qow{B:Nat}(hg:Po w g)(P:Pst B w v D own w)(h1:g<B)(hS:SCl D 0 n F x)(hn:64<=n)(hx:x<=1000)(e:Bool) :
  Calls prog 111 #[(.iface 40 (.pointer (some ⟨v.tb 0,0,none⟩))),.bool e,.pointer (some ⟨g,0,none⟩)] w fun r w'=>r = .returned (.bool (gUd n F e))/\Below B w w':=by
 have hdn:D.n=n:=hS.grp.on.n;have hcu:=hS.cur;have HLK:Hid (Calls prog 17 #[(.iface 40 (.pointer (some ⟨v.tb 0,0,none⟩))),.int .i64 10,.int .i64 2] w fun r w'=>∃ sa sc,r = .returned (.slice sa (Qk F 640 2).length sc)/\Below w.heap.size w w'):=hid ((Mh P.dev (j:=0) (by omega) 10 2 (by omega) (by omega) hS.grp.on.off hS.vb).mono fun r w' hp=>by
  rw[hcu]at hp;obtain⟨sv,rfl,h2⟩:=hp;obtain⟨sa,sc,rfl⟩:=h2.slice;exact⟨sa,sc,rfl,h2.bel⟩)
 have HO:Hid (∀ wx,Below w.heap.size w wx->Calls prog 49 #[(.iface 40 (.pointer (some ⟨v.tb 0,0,none⟩))),.int .i64 10,.int .i64 2] wx (OpenPostU wx v own D 0 640 2)):=hid (fun(wx:World) (hb:Below w.heap.size w wx)=>uOpen_ok (P.dev.below hb) (j:=0) (by omega) 10 2 (by omega) (by omega));unfold OpenPostU at HO;have HRG:Hid (∀ (wx:World) (lb:Nat),Below w.heap.size w wx->LogAt wx v own D lb 0 640 2->Calls prog 112 #[.pointer (some ⟨lb,0,none⟩)] wx (Qwe B n x F w v)):=hid (fun wx lb hb hl=>Qk3 (P.next hb) hl hS hn hx);have HW:=hid (fun(wx:World) (D':Dev) (own':Nat->Option Qp) (hp:Pst B w v D' own' wx) (hs:SCl D' 0 n (Ia n F) (x+30)) (a b:Int)=>(show Calls prog 104 #[(.iface 40 (.pointer (some ⟨v.tb 0,0,none⟩))),.int .u64 a,.int .u64 b] wx fun r w'=>r = .returned (.bool (decide (Ia n F 320=a)&&decide (Ia n F 328=b)))/\wx=w' by
  have:=Wt hp.dev hs.grp.on.off hs.grp.on.err (by rw[hs.grp.on.n];exact hn) a b
  rwa [hs.cur]at this))
 have HC:=hid (fun(wx:World) (D':Dev) (own':Nat->Option Qp) (hp:Pst B w v D' own' wx) (hs:SCl D' 0 n (Ia n F) (x+30))=>(show Po wx g/\Calls prog 106 #[(.iface 40 (.pointer (some ⟨v.tb 0,0,none⟩))),.int .u64 5,.int .u64 6] wx fun r w'=>r = .returned (.int .i64 0)/\∃ own' D2,Pst B w v D2 own' w'/\Calls prog 104 #[(.iface 40 (.pointer (some ⟨v.tb 0,0,none⟩))),.int .u64 5,.int .u64 6] w' fun r w2=>r = .returned (.bool true)/\w'=w2 from
  ⟨hg.above hp.bel h1,(Qda hp hs Qqm hn (by omega) 5 6 (by omega) (by omega)).mono fun r w' ⟨h1,own2,h2⟩=>⟨h1,own2,_,h2,by
   have hs2:=Cq hs hn 5 6 (by omega) (by omega);have:=Wt h2.dev hs2.grp.on.off hs2.grp.on.err (by rw[hs2.grp.on.n];exact hn) 5 6;rw[hs2.cur,Q3i,Q3j]at this;simpa using this⟩⟩))
 have HB0:Hid (B<=w.heap.size):=P.size;unfold gUd;unfold Qwe at HRG;clear hg P h1 hS hn hx hdn hcu
 generalize Ia n F=f at *
 generalize Qk F 640 2=S at *
 obtain⟨sl,hsl⟩:∃ sl,S.length=sl:=⟨_,rfl⟩;rw[hsl]at HLK ⊢;clear hsl;have hbs:(e=true/\0<sl)\/(e=false\/(e=true/\sl=0)):=by cases e <;> simp;omega
 rcases hbs with ⟨rfl,hs⟩ | hgood
 ·have hs2:(0:Int)<sl:=by omega
  go_enter func111,ntmps111
  go_wp2_with fail
  (with_reducible refine HLK.out.mono ?_)
  rintro r w1 ⟨sa,sc,rfl,b1⟩;have B1:=hid (b1.mono HB0.out);clear b1;go_wp2_with fail
  go_ret
  refine⟨?_,B1.out⟩
  rw[decide_eq_false (show ¬ sl=0 by omega)]
  rfl
 ·obtain⟨b34,hb34⟩:∃ b,(decide (f 320=3)&&decide (f 328=4))=b:=⟨_,rfl⟩
  obtain⟨b12,hb12⟩:∃ b,(decide (f 320=1)&&decide (f 328=2))=b:=⟨_,rfl⟩;have HW1:=hid (fun wx D' own' hp hs=>HW.out wx D' own' hp hs 3 4);have HW2:=hid (fun wx D' own' hp hs=>HW.out wx D' own' hp hs 1 2);rw[hb34]at HW1;rw[hb12]at HW2;rw[hb34,hb12];clear HW hb34 hb12
  rcases hgood with rfl | ⟨rfl,rfl⟩
  case' inl=>have HO0:=hid (HO.out w (Below.refl _ _));have B1:=hid (Below.refl w.heap.size w)
  all_goals
   cases b34
   all_goals
    go_enter func111,ntmps111
    go_wp2_with fail
    first
     | (with_reducible refine HO0.out.mono ?_)
     | ((with_reducible refine HLK.out.mono ?_)
        rintro r w1 ⟨sa,sc,rfl,b1⟩;have B1:=hid b1;have HO1:=hid (HO.out w1 b1);clear b1;go_wp2_with fail
        (with_reducible refine HO1.out.mono ?_))
    rintro r w2 ⟨rfl,l2,b2⟩;have B2:=hid (B1.out.trans (b2.mono B1.out.size));have HR2:=hid (HRG.out w2 _ B2.out l2);clear l2 b2 HO;go_wp2_with fail
    (with_reducible refine HR2.out.mono ?_)
    rintro r w3 ⟨k,rfl,D3,own3,s3,p3⟩;have S3:=hid s3;have P3:=hid p3
    have HW3:=hid (HW1.out w3 D3 own3 p3 s3);have HW4:=hid (HW2.out w3 D3 own3 p3 s3);obtain⟨hgb,hcm⟩:=HC.out w3 D3 own3 p3 s3;have HC3:=hid hcm;have c0:=hgb.cell;clear s3 p3 HR2 HW1 HW2 HC hcm hgb;go_wp2_with fail
    (with_reducible refine HW3.out.mono ?_)
    rintro r w4 ⟨rfl,rfl⟩;go_wp2_with fail
    first
     | (go_ret
        exact⟨by simp,P3.out.bel⟩)
     | ((with_reducible refine HC3.out.mono ?_)
        rintro r w5 ⟨rfl,own5,D5,p5,h5⟩;have P5:=hid p5;have H5:=hid h5
        clear p5 h5;go_wp2_with fail
        (with_reducible refine H5.out.mono ?_)
        rintro r w6 ⟨rfl,rfl⟩;go_wp2_with fail
        go_ret
        exact⟨by simp,P5.out.bel⟩)
     | ((with_reducible refine HW4.out.mono ?_)
        rintro r w5 ⟨rfl,rfl⟩
        cases b12
        ·go_wp2_with fail
         go_ret
         exact⟨by simp,P3.out.bel⟩
        ·go_wp2_with fail
         (with_reducible refine HC3.out.mono ?_)
         rintro r w5 ⟨rfl,own5,D5,p5,h5⟩;have P5:=hid p5;have H5:=hid h5
         clear p5 h5;go_wp2_with fail
         (with_reducible refine H5.out.mono ?_)
         rintro r w6 ⟨rfl,rfl⟩;go_wp2_with fail
         go_ret
         exact⟨by simp,P5.out.bel⟩)
end
end

section
open Go.Maps
attribute [local go_sem ↓] Go.wp_at_zero Go.wp_at_succ
def udQ(a b:Int)(C:Nat->Int):List (Nat×Nat×Int):=(Ji C++Yp a b)++Qh7
theorem Qqk{a b:Int}{k:Nat}{e:Nat×Int}(h:(rdW a b)[k]? = some e):(Yp a b).take (k+1)=(Yp a b).take k ++ [(1,e.1,e.2)]:=by
 have hk:k=0\/k=1:=by
  have:=(List.getElem?_eq_some_iff.1 h).1;simp[rdW]at this;omega
 rcases hk with rfl | rfl
 ·simp[rdW]at h;subst h;rfl
 ·simp[rdW]at h;subst h;rfl
theorem Ov.LogAt.go{w w':World}{v:DV}{own own':Nat->Option Qp}{D D':Dev}{lb j off m:Nat}(h:Ov.LogAt w v own D lb j off m)(d:Ov.IsDev w' v own' D')(o:∀ k,k<w.heap.size->own' k=own k)(u:Upd (fun k=>own k=some .dev) w w')(hn:D'.n=D.n):Ov.LogAt w' v own' D' lb j off m:=by
 have hlt:lb<w.heap.size:=h.blk.lt;exact⟨d,(u.block lb hlt (fun k=>by rw[h.ob]at k;cases k)).trans h.blk,by rw[o lb hlt];exact h.ob,h.hj,h.n2,h.o64,by rw[hn];exact h.fit⟩
theorem Qhu{n k:Nat}{C:Nat->Int}(h:∀ i,0<=C i/\C i<18446744073709551616):(Ov.ovE n C k).VB:=⟨h,fun l e he=>by simp[Ov.ovE,Dev.fresh]at he⟩
theorem Qhl{n:Nat}{q:List (Nat×Nat×Int)}(hq:∀ e∈q,OkQ n e):∀ {C:Nat->Int},(∀ i,0<=C i/\C i<18446744073709551616)->∀ i,0<=Xj q C i/\Xj q C i<18446744073709551616:=by
 induction q with
 | nil=>intro C h;exact h
 | cons e q ih=>
  intro C h;rw[Kx];refine ih (fun a ha=>hq a (List.mem_cons_of_mem _ ha)) (fun i => ?_)
  have he:=hq e (List.mem_cons_self ..)
  split
  ·simp only
   split
   ·exact⟨he.v0,he.v1⟩
   ·exact h i
  ·exact h i
section
variable{w:World}{v:DV}{own:Nat->Option Qp}{D:Dev}{g n x:Nat}{C F:Nat->Int}
theorem Ln(C:Nat->Int):Ji C = [(1,704,2560),(1,712,C 320),(1,720,2624),(1,728,C 328),(2,704,0),(3,0,0),(1,640,2),(2,640,0),(3,0,0)]:=by
 have hl:Zh [704,712,720,728] = [11]:=by decide +kernel
 have hl2:Zh [640] = [10]:=by decide +kernel
 unfold Ji Qe Zs;rw[Vg];simp[hl,hl2]
theorem Qqj:Qh7 = [(2,2560,0),(2,2624,0),(3,0,0),(1,640,0),(2,640,0),(3,0,0)]:=by decide +kernel
theorem Qvv(hC:∀ i,0<=C i/\C i<18446744073709551616)(hn:64<=n):∀ e∈Ji C,OkQ n e:=by
 have h1:=hC 320;have h2:=hC 328
 rw[Ln];intro e he;simp only[List.mem_cons,List.not_mem_nil,or_false]at he
 rcases he with rfl | rfl | rfl | rfl | rfl | rfl | rfl | rfl | rfl <;> exact⟨by simp,by simp,by simp,by simp only;omega,by simp only;omega,by simp only;omega⟩
theorem Qh8(a b:Int)(C:Nat->Int):Xj (Ji C++Yp a b) C=Xj (Yp a b) (Qbu C):=by
 rw[Kb]
 congr 1
 funext i
 rw[Ln];unfold Qbu;rw[Vg];simp[Xj,Qu]
theorem Qvu(a b:Int)(ha:0<=a/\a<18446744073709551616)(hb:0<=b/\b<18446744073709551616)(hn:64<=n):∀ e∈Yp a b,OkQ n e:=by
 intro e he;simp[Yp]at he
 rcases he with rfl | rfl
 ·exact⟨by simp,by simp,by simp,by simp only;omega,ha.1,ha.2⟩
 ·exact⟨by simp,by simp,by simp,by simp only;omega,hb.1,hb.2⟩
theorem Qot(h:IsDev w v own D)(hS:SCl D 0 n C x)(h0:Qk C 640 2 = [])(hn:64<=n)(a b:Int)(ha:0<=a/\a<18446744073709551616)(hb:0<=b/\b<18446744073709551616) :
  Calls prog 105 #[(.iface 40 (.pointer (some ⟨v.tb 0,0,none⟩))),.int .u64 a,.int .u64 b] w fun r w'=>∃ sv,r = .returned (.tuple #[sv,.int .i64 0])/\Acc w w.heap.size w' 73 3 sv (udQ a b C).length (Qd (udQ a b C)):=by
 have hcu:=hS.cur;have hdn:D.n=n:=hS.grp.on.n;have hbd:=hS.bd;have hle:n<=4096:=by rw[<- hdn];exact h.wf.le
 have HOV:=hid (Ov.over_any h hS.grp.on.off hS.grp.on.err);rw[hcu,hdn]at HOV;have hq1:∀ e∈Ji C++Yp a b,OkQ n e:=fun e he=>(List.mem_append.1 he).elim (Qvv hbd hn e) (Qvu a b ha hb hn e)
 have HO:Hid (∀ (wx:World) (v1:DV) (own1:Nat->Option Qp),Ov.IsDev wx v1 own1 (Ov.ovE n C 0)->Calls prog 49 #[.iface 141 (.pointer (some ⟨v1.tb 0,0,none⟩)),.int .i64 10,.int .i64 2] wx (Ov.OpenPostU wx v1 own1 (Ov.ovE n C 0) 0 640 2)):=hid (fun wx v1 own1 hd=>Ov.uOpen_ok hd (j:=0) (by omega) 10 2 (by omega) (by show 10+2<=n;omega));unfold Ov.OpenPostU at HO;have HPL:Hid (∀ (wx:World) (v1:DV) (own1:Nat->Option Qp) (lb:Nat) (sv:Value),Ov.LogAt wx v1 own1 (Ov.ovE n C 0) lb 0 640 2->Ql wx 1 sv [2560,2624].length (Zw [2560,2624])->Calls prog 68 #[.pointer (some ⟨lb,0,none⟩),sv] wx fun r w'=>∃ sv,r = .returned (.tuple #[sv,.int .i64 0])/\Acc wx wx.heap.size w' 73 3 sv (Ji C).length (Qd (Ji C))):=hid (fun wx v1 own1 lb sv hl hr=>by
  have hp:=Ov.uPlan_live hl rfl rfl (Qhu hbd) sv [2560,2624] hr (by simp) (by simp) (by show ∀ o ∈ [2560,2624],Qw (64*n) 640 2 o=true;simp[Qw];omega);rw[show(Ov.ovE n C 0).cur=C from rfl,h0,show List.map (·.1) ([]:List (Nat×Int)) = []from rfl,Co]at hp;refine hp.mono ?_
  rintro r w1 (⟨k,_⟩ | ⟨_,ov,rfl,a1⟩)
  ·simp[udF]at k
  have e1:Jf 640 ([]:List (Nat×Int)).length (udF C)=Ji C:=by unfold Jf Ji;rw[if_neg (by simp[udF])];rfl
  rw[e1]at a1;exact⟨ov,rfl,a1⟩)
 have HRN:Hid (∀ (wx w1:World) (v1:DV) (own1:Nat->Option Qp) (lb:Nat) (pv:Value),Ov.LogAt wx v1 own1 (Ov.ovE n C 0) lb 0 640 2->(∀ k,own1 k=some .dev->w.heap.size<=k)->w.heap.size<=wx.heap.size->Acc wx wx.heap.size w1 73 3 pv (Ji C++Yp a b).length (Qd (Ji C++Yp a b)) ->
   Calls prog 12 #[pv,.iface 141 (.pointer (some ⟨v1.tb 0,0,none⟩))] w1 fun r w'=>r = .returned (.int .i64 0)/\Below w.heap.size w1 w'/\Ql w' 3 pv (Ji C++Yp a b).length (Qd (Ji C++Yp a b)) /\
    Calls prog 70 #[.pointer (some ⟨lb,0,none⟩)] w' fun r w2=>∃ sv,r = .returned (.tuple #[sv,.int .i64 0])/\Acc w' w'.heap.size w2 73 3 sv Qh7.length (Qd Qh7)):=hid (fun wx w1 v1 own1 lb pv hl hnew hsz ha1=>by
  have hl1:=hl.below ha1.bel;have hpn:∀ k,pv.ownBlock=some k->own1 k=none:=fun k hk=>by
   have h1:=ha1.new k hk
   cases hh:own1 k with
   | none=>rfl
   | some r=>have:=hl.dev.lt k (by rw[hh];simp);omega
  refine(Ov.run_ok hl1.dev pv _ ha1.rd hpn hq1 (by rw[Ln];simp[Yp])).mono ?_
  rintro r w' ⟨rfl,own2,d2,o2,u2⟩;have hl2:=hl1.go d2 o2 u2 rfl;refine⟨rfl,⟨u2.os,u2.tape,u2.output,u2.size,fun k hk=>u2.block k (by have:=ha1.bel.size;omega) (fun e=>by have:=hnew k e;omega)⟩,ha1.rd.upd u2 (fun k hk=>by rw[hpn k hk];simp),?_⟩
  have hcur:(Ov.ovE n (Xj (Ji C++Yp a b) C) (Ji C++Yp a b).length).cur=Xj (Yp a b) (Qbu C):=Qh8 a b C;have hload:=Ov.uload_any hl2 rfl rfl (Qhu (Qhl hq1 hbd));rw[hcur,Lm a b C hbd]at hload;rw[show 64*(Ov.ovE n (Xj (Ji C++Yp a b) C) (Ji C++Yp a b).length).n=64*n from rfl,Cp n hn]at hload;have hpc:=Ov.uPlanCommit_any hl2 (udF C) (udF C) hload ⟨by simp[udF],by simp[udF]⟩ (Nat.le_refl _);exact hpc)
 have R0:Hid (∀ wx:World,Ql (wx.alloc (.cells #[.int .u64 2560,.int .u64 2624] 31)) 1 (.slice (some ⟨wx.heap.size,0,none⟩) 2 2) [2560,2624].length (Zw [2560,2624])):=hid (fun wx=>Ql.new wx #[.int .u64 2560,.int .u64 2624] 31 1 2 rfl);have HWR:=hid (fun wx:World=>Fa (w:=wx) a b);have hpl:(Ji C).length=9:=by rw[Ln];rfl
 have HTH:Hid (∀ (wx:World) (pv qv:Value),Ql wx 3 pv (Ji C).length (Qd (Ji C))->Ql wx 3 qv (Yp a b).length (Qd (Yp a b))->Calls prog 69 #[pv,qv] wx fun r w'=>∃ ov,r = .returned ov/\Acc wx wx.heap.size w' 73 3 ov (Ji C++Yp a b).length (Qd (Ji C++Yp a b))):=hid (fun wx pv qv h1 h2=>Xx pv qv _ _ h1 h2 (by rw[hpl];simp[Yp]));have HTH2:Hid (∀ (wx:World) (pv qv:Value),Ql wx 3 pv (Ji C++Yp a b).length (Qd (Ji C++Yp a b))->Ql wx 3 qv Qh7.length (Qd Qh7)->Calls prog 69 #[pv,qv] wx fun r w'=>∃ ov,r = .returned ov/\Acc wx wx.heap.size w' 73 3 ov (udQ a b C).length (Qd (udQ a b C))):=hid (fun wx pv qv h1 h2=>Xx pv qv _ _ h1 h2 (by rw[List.length_append,hpl,Qqj];simp[Yp]));have HTK:=hid (fun(k:Nat) (e:Nat×Int) (he:(rdW a b)[k]? = some e)=>Qqk he);have HTL:Hid ((Yp a b).take 2=Yp a b):=rfl;have HLN:Hid ((Yp a b).length=2):=rfl;have hwl:(rdW a b).length=2:=rfl;have HWL:=hid hwl;obtain⟨i0,hi,hz0,hz1,hz2⟩:=info_parts Xs;have I:=hid (And.intro hi (And.intro hz0 (And.intro hz1 hz2)));clear h hS h0 hn ha hb hcu hdn hbd hle hq1 hpl hi hz0 hz1 hz2 hwl
 generalize udQ a b C=QQ at *
 generalize Ji C++Yp a b=Q2 at *
 generalize Yp a b=Q1 at *
 generalize Ji C=Q0 at *
 generalize Qh7=Q3 at *
 go_enter func105,ntmps105
 go_wp2_with fail
 (with_reducible refine HOV.out.mono ?_)
 rintro r w1 ⟨v1,own1,rfl,d1,b1,n1⟩;have B1:=hid b1;have N1:=hid n1
 have HO1:=hid (HO.out w1 v1 own1 d1);clear d1 b1 n1 HO HOV;go_wp2_with fail
 (with_reducible refine HO1.out.mono ?_)
 rintro r w2 ⟨rfl,l2,b2⟩;have B2:=hid ((B1.out.trans (b2.mono B1.out.size)).trans ((Qa w2 (.cells #[.int .u64 2560,.int .u64 2624] 31)).mono (Nat.le_trans B1.out.size b2.size)));have L2:=hid (l2.alloc (.cells #[.int .u64 2560,.int .u64 2624] 31));have HP1:=hid (HPL.out _ v1 own1 _ _ L2.out (R0.out w2));clear l2 b2 HO1 HPL;go_wp2_with fail
 (with_reducible refine HP1.out.mono ?_)
 rintro r w3 ⟨sv,rfl,a3⟩;obtain⟨pa,pc,hsv⟩:=a3.slice;subst hsv;have A3:=hid a3.rd;have L3:=hid (L2.out.below a3.bel);have B3:=hid (B2.out.trans (a3.bel.mono B2.out.size));clear a3 HP1;go_wp2_with fail
 (with_reducible refine(HWR.out _).mono ?_)
 rintro r w4 ⟨rfl,r4,b4⟩;have R4:=hid r4;have A4:=hid (A3.out.below b4);have L4:=hid (L3.out.below b4);have B4:=hid (B3.out.trans (b4.mono B3.out.size));have AC0:Hid (Acc w4 w4.heap.size w4 73 3 (.slice none 0 0) 0 (Qd (Q1.take 0))):=hid (Acc.nil _ _ _ _ _ (Below.refl _ _) (Nat.le_refl _));clear r4 b4 HWR A3 L3;go_wp2_with fail
 go_loopw [12,42] (fun u y wr=>∃ k:Nat,k<=2/\y = .int .i64 k/\Acc w4 w4.heap.size wr 73 3 u k (Qd (Q1.take k))) (fun _ y _=>2-(intOf y).toNat)
 case atStart=>exact⟨0,by omega,rfl,AC0.out⟩
 case round=>
  clear AC0;obtain⟨k,hk,rfl,ha⟩:=hrel;rename World=>wr
  obtain⟨la,lc,hsv⟩:=ha.slice;subst hsv;have A:=hid ha;clear ha
  by_cases hlt:k<2
  ·have hlt':(k:Int)<2:=by omega
   obtain⟨e,he⟩:∃ e,(rdW a b)[k]? = some e:=⟨_,List.getElem?_eq_getElem (by rw[HWL.out];exact hlt)⟩;obtain⟨_,a',c',e',_,hE⟩:=R4.out.below A.out.bel
   cases e'
   have hg:=Xr (rdW a b) k e he;obtain⟨eb,eo,heb,hE2⟩:=Zr hE hg.1
   cases heb
   have c1:=hE2 _ _ hg.1;have c2:=hE2 _ _ hg.2
   simp only[Nat.zero_add]at c1 c2;have HT:=hid (HTK.out k e he);clear hE hE2 he hg;obtain⟨e1,e2⟩:=e;simp only at c1 c2 HT;go_wp2_with (at_builtin;refine Qc _ rfl _ _ 37 rfl 73 i0 _ 3 24 underlying37 I.out.1 I.out.2.1 I.out.2.2.1 I.out.2.2.2 rfl (by decide) _ _ _ rfl (by exact(A.out.own.alloc _).alloc _) _ 1 (Qd [(1,e1,e2)]) rfl (by exact Ql.newAt _ _ _ 3 1 _ (World.size_alloc _ _).symm rfl) (Zn _) (by unfold maxLen;omega) (by omega) ?_)
   rintro v8 w8 o8 g8 a8 _;have A8:=hid (A.out.next (Ze _ _ _) o8 g8 a8 (by first | simp | (simp;omega) | omega));clear o8 g8 a8;go_wp2_with fail
   go_roundw
   case rel=>exact⟨k+1,by omega,by go_num,by rw[HT.out,Zv];exact A8.out⟩
   case measure=>simp[intOf];omega
  ·obtain rfl:k=2:=by omega
   have RU:=A.out.rd;rw[HTL.out]at RU;have RU2:Ql wr 3 (.slice la 2 lc) Q1.length (Qd Q1):=by rw[HLN.out];exact RU
   have HT1:=hid (HTH.out wr _ _ (A4.out.below A.out.bel) RU2);have L5:=hid (L4.out.below A.out.bel);have B5:=hid (B4.out.trans (A.out.bel.mono B4.out.size));clear RU RU2 HTH L4 A4;go_wp2_with fail
   (with_reducible refine HT1.out.mono ?_)
   rintro r w6 ⟨pv,rfl,a6⟩;have B6:=hid (B5.out.trans (a6.bel.mono B5.out.size));have HR1:=hid (HRN.out wr w6 v1 own1 _ pv L5.out N1.out B5.out.size a6);clear a6 HT1 HRN;go_wp2_with fail
   (with_reducible refine HR1.out.mono ?_)
   rintro r w7 ⟨rfl,b7,r7,h7⟩;have B7:=hid (B6.out.trans b7);have R7:=hid r7;have H7:=hid h7
   clear b7 r7 h7 HR1;go_wp2_with fail
   (with_reducible refine H7.out.mono ?_)
   rintro r w8 ⟨sv8,rfl,a8⟩;have B8:=hid (B7.out.trans (a8.bel.mono B7.out.size));have HT2:=hid (HTH2.out w8 pv sv8 (R7.out.below a8.bel) a8.rd);clear a8 H7 HTH2;go_wp2_with fail
   (with_reducible refine HT2.out.mono ?_)
   rintro r w9 ⟨ov,rfl,a9⟩;have A9:=hid (a9.deeper B8.out);clear a9;go_wp2_with fail
   go_ret2
   exact⟨_,rfl,A9.out⟩
def Q0h(w:World)(g:Nat):Prop:=Blk w g #[.func (.func 105) #[] #[]] 183
theorem Qov(hg:Q0h w g)(h:IsDev w v own D)(hS:SCl D 0 n C x)(h0:Qk C 640 2 = [])(hn:64<=n) :
  Calls prog 110 #[(.iface 40 (.pointer (some ⟨v.tb 0,0,none⟩))),.pointer (some ⟨g,0,none⟩)] w fun r w'=>∃ sv,r = .returned (.tuple #[sv,.int .i64 0])/\Acc w w.heap.size w' 73 3 sv (udQ 3 4 C).length (Qd (udQ 3 4 C)):=by
 have H:=hid (Qot h hS h0 hn 3 4 (by omega) (by omega));have c0:w.cell? ⟨g,0,none⟩=some (.func (.func 105) #[] #[]):=Blk.cell hg rfl;clear hg h hS h0 hn
 go_enter func110,ntmps110
 go_wp2_with fail
 (with_reducible refine H.out.mono ?_)
 rintro r w1 ⟨sv,rfl,a1⟩;have A1:=hid a1;clear a1
 go_wp2_with fail
 go_ret2
 exact⟨_,rfl,A1.out⟩
end
end

section
def Qxl(b:Nat):Bool:=(decide (65<=b)&&decide (b<=90)) || (decide (97<=b)&&decide (b<=122))
def Qa5(b:Nat):Bool:=Qxl b || b==95 || (decide (48<=b)&&decide (b<=57))
def Vt(l:List UInt8):Bool:=decide (1<=l.length/\l.length<=16)&&Qxl (l.getD 0 0).toNat&&l.all fun b=>Qa5 b.toNat
structure Q0b(l:List UInt8):Prop where
 pos:1<=l.length
 le:l.length<=16
 all:∀ b∈l,Qa5 b.toNat=true
theorem Qao{l:List UInt8}(h:Vt l=true):Q0b l:=by
 unfold Vt at h;simp only[Bool.and_eq_true,decide_eq_true_eq]at h;exact⟨h.1.1.1,h.1.1.2,List.all_eq_true.1 h.2⟩
def Mx(x i:Nat):UInt8:=UInt8.ofNat (x/256 ^ i)
theorem Ue(x i:Nat):(Mx x i).toNat=x/256 ^ i%256:=by unfold Mx;simp
def pkN(l:List UInt8):Nat:=l.foldr (fun b r=>b.toNat+256*r) 0
theorem St(b:UInt8)(l:List UInt8):pkN (b::l)=b.toNat+256*pkN l:=rfl
theorem Q2h(l:List UInt8):pkN l<256 ^ l.length:=by
 induction l with
 | nil=>decide
 | cons b l ih=>
  rw[St,List.length_cons,Nat.pow_succ];have:=b.toNat_lt;omega
theorem Qpa{l:List UInt8}(h:l.length<=8):pkN l<18446744073709551616:=
 Nat.lt_of_lt_of_le (Q2h l) (Nat.pow_le_pow_right (n:=256) (by omega) h)
theorem Ey(a b:List UInt8):pkN (a++b)=pkN a+256 ^ a.length*pkN b:=by
 induction a with
 | nil=>simp[pkN]
 | cons x a ih=>
  rw[List.cons_append,St,St,ih,List.length_cons,Nat.pow_succ,Nat.mul_add,Nat.mul_right_comm];rw[Nat.mul_comm 256 (256 ^ a.length*pkN b),Nat.mul_right_comm,Nat.mul_comm (256 ^ a.length) 256];omega
theorem Qhw(l:List UInt8)(b:UInt8):pkN (l ++ [b])=pkN l+b.toNat*256 ^ l.length:=by
 rw[Ey];show pkN l+256 ^ l.length*(b.toNat+256*0)=_
 rw[Nat.mul_zero,Nat.add_zero,Nat.mul_comm]
def Nx(x y:Nat):List UInt8:=(List.range 8).map (Mx x)++(List.range 8).map (Mx y)
theorem Sy(x y:Nat):(Nx x y).length=16:=by simp[Nx]
def pk0(l:List UInt8):Nat:=pkN (l.take 8)
def pk1(l:List UInt8):Nat:=pkN ((l.drop 8).take 8)
theorem Qvb(l:List UInt8):pk0 l<18446744073709551616:=Qpa (by simp;omega)
theorem Qvc(l:List UInt8):pk1 l<18446744073709551616:=Qpa (by simp;omega)
def nmL(x y:Nat):List UInt8:=Lib.trimRightB (Nx x y) 0
theorem Qpk(x y j:Nat)(h:j<16):(Nx x y)[j]? = some (if j<8 then Mx x j else Mx y (j-8)):=by
 unfold Nx;rw[List.getElem?_append]
 split
 ·rename_i h8
  simp at h8;rw[if_pos h8,List.getElem?_map,List.getElem?_range h8];rfl
 ·rename_i h8
  simp at h8;rw[if_neg (by omega),List.getElem?_map,List.length_map,List.length_range,List.getElem?_range (by omega)];rfl
def Qgs(x y:Nat):Nat:=4294967296+Nd [x,y]
theorem Qbm(x y:Nat):Qgs x y<18446744073709551616:=by unfold Qgs;have:=Gn [x,y];omega
def Vu(p:Nat->Bool)(n:Nat):Nat:=(List.range n).findIdx p
theorem Ax(p:Nat->Bool)(n:Nat):Vu p n<=n:=by
 unfold Vu;have:=List.findIdx_le_length (p:=p) (xs:=List.range n);simpa using this
theorem Ra(p:Nat->Bool)(n:Nat):(∀ j,j<Vu p n->p j=false)/\(Vu p n<n->p (Vu p n)=true):=by
 unfold Vu;refine⟨fun j hj => ?_,fun h => ?_⟩
 ·have h1:j<(List.range n).length:=by
   have:=List.findIdx_le_length (p:=p) (xs:=List.range n);omega
  have:=List.not_of_lt_findIdx hj;simpa using this
 ·have:=List.findIdx_getElem (p:=p) (xs:=List.range n) (w:=by simpa using h)
  simpa using this
theorem Ni{p:Nat->Bool}{n k:Nat}(hk:k<n)(hp:p k=true)(h:∀ j,j<k->p j=false):Vu p n=k:=by
 obtain⟨h1,h2⟩:=Ra p n
 rcases Nat.lt_trichotomy (Vu p n) k with h3 | h3 | h3
 ·have:=h2 (by omega);rw[h _ h3]at this;cases this
 ·exact h3
 ·have:=h1 k h3;rw[hp]at this;cases this
theorem Wj{p:Nat->Bool}{n:Nat}(h:∀ j,j<n->p j=false):Vu p n=n:=by
 obtain⟨h1,h2⟩:=Ra p n;have:=Ax p n
 rcases Nat.lt_or_ge (Vu p n) n with h3 | h3
 ·have h4:=h2 h3;rw[h _ h3]at h4;cases h4
 ·omega
def Yc(W:Nat->Nat)(e:Nat):Bool:=W (4*e+3) != 0
def Ws(W:Nat->Nat)(e:Nat):List UInt8:=nmL (W (4*e)) (W (4*e+1))
def Jr(W:Nat->Nat)(l:List UInt8):Nat:=Vu (fun e=>Yc W e&&Ws W e==l) 16
def Qaa(W:Nat->Nat):Nat:=Vu (fun e => !Yc W e) 16
def Qyc(p sz:Nat):Bool:=decide (0<p%4294967296*8)&&decide (p%4294967296*8<sz)&&decide (0<p/4294967296%65536)&&decide (0<p/281474976710656)&&decide (p/281474976710656<128)
def Ry(W:Nat->Nat)(l:List UInt8)(p sz:Nat):Nat:=
 if Vt l=false then 15 else if p≠0/\Qyc p sz=false then 1 else if p=0 then(if Jr W l<16 then 0 else 5)else if Jr W l<16 then 0 else if Qaa W<16 then 0 else 4
def Q4y(f:Nat)(l:List UInt8)(p:Nat):List (Nat×Nat) := [(4*f,pk0 l),(4*f+1,pk1 l),(4*f+2,p),(4*f+3,Qgs (pk0 l) (pk1 l))]
def wrE(W:Nat->Nat)(l:List UInt8)(p:Nat):List (Nat×Nat):=
 if p=0 then [(4*Jr W l+3,0)]else if Jr W l<16 then [(4*Jr W l+2,p)]else Q4y (Qaa W) l p
end
end Go.Proofs.YtlhchkajjpefmaaGreatDoor
