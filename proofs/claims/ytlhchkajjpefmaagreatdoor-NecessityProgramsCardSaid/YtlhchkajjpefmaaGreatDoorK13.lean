/- Lemmas and walks, part 13: each theorem says what it proves; no condition beside its own. -/
import Derived.Test.YtlhchkajjpefmaaGreatDoorK12
import Derived.Laws.EntriesVeiled
set_option maxHeartbeats 16000000
set_option maxRecDepth 100000
namespace Go.Proofs.YtlhchkajjpefmaaGreatDoor
open Lib(hid)
open Go.RowKit Go.Proofs.Tryz
section
open Go.Maps
attribute [local go_sem ↓] Go.wp_at_zero Go.wp_at_succ
end
section
theorem Sup.Ok.withGen{s:Sup}(h:s.Ok)(g:Int):(s.withGen g).Ok:=⟨h.v1,h.v2,h.l1,h.l2,h.r1,h.u1,h.d1,h.q1,h.t1,h.r2,h.u2,h.d2,h.q2,h.t2,h.h⟩
structure SCl(D:Dev)(j n:Nat)(C:Nat->Int)(x:Nat):Prop where
 grp:Grp D j n C [] []
 vb:D.VB
 exec:D.exec<=x
 ar:D.armed=false
section
variable{D:Dev}{C:Nat->Int}{j n x:Nat}
theorem SCl.cur(h:SCl D j n C x):D.cur=C:=funext fun i=>by rw[h.grp.hst.cur];rfl
theorem SCl.img(h:SCl D j n C x)(ks:Nat->Nat):D.img ks=C:=funext fun i=>h.grp.hst.clean ks i
theorem SCl.mono{y:Nat}(h:SCl D j n C x)(hxy:x<=y):SCl D j n C y:=⟨h.grp,h.vb,Nat.le_trans h.exec hxy,h.ar⟩
theorem SCl.bd(h:SCl D j n C x)(i:Nat):0<=C i/\C i<18446744073709551616:=by rw[<- h.cur];exact h.vb.cur i
theorem Xz{f:Nat->Int}(hf:∀ i,0<=f i/\f i<18446744073709551616)(j n:Nat):SCl (Dev.fresh n f) j n f 0:=
 ⟨⟨⟨rfl,rfl,rfl⟩,⟨fun _=>rfl,fun _=>rfl⟩,fun o ho=>by simp at ho,fun _ _=>rfl⟩,⟨hf,fun l e he=>by simp[Dev.fresh]at he⟩,Nat.le_refl _,rfl⟩
theorem SCl.stores(h:SCl D j n C x){ws:List (Nat×Int)}(hw:∀ e∈ws,e.1%8=0/\e.1<64*n)(hv:∀ e∈ws,0<=e.2/\e.2<18446744073709551616) :
  SCl (D.run j (Qe ws)) j n (fun i=>Qu ws (C i) i) (x+(Qe ws).length):=by
 have hx:=D.run_exec j (Qe ws);have:=h.exec;rw[Yo]at *
 rcases Md h.grp (Uq hw)with ⟨h1,h2,_⟩ | ⟨_,_,_,_,_,_,_,_,h2,_⟩
 ·have e:Rf C (Xl ws)=fun i=>Qu ws (C i) i:=funext fun i=>by rw[Kw,Jo]
  rw[e]at h1;exact⟨h1,Dev.VB.run _ h.vb j (Rw (fun e he=>by rw[Jo]at he;exact hv e he)),by omega,by rw[h2];exact h.ar⟩
 ·rw[h.ar]at h2;cases h2
end
theorem Qyq{s:Sup}(hf:s.Fits)(i:Nat):∀ e∈Dr s i,0<=e.2/\e.2<18446744073709551616:=by
 obtain⟨g1,g2,v1,v2,l1,l2,r1,r2,u1,u2,d1,d2,q1,q2,t1,t2⟩:=hf;have h0:∀ q,q<8->(s.words.getD q 0)<18446744073709551616:=fun q hq=>by
  obtain rfl | rfl | rfl | rfl | rfl | rfl | rfl | rfl:q=0\/q=1\/q=2\/q=3\/q=4\/q=5\/q=6\/q=7:=by omega
  ·show 7738151121853964849<18446744073709551616;omega
  ·show s.gen.toNat<18446744073709551616;omega
  ·show s.w2<18446744073709551616;unfold Sup.w2;omega
  ·show s.w3<18446744073709551616;unfold Sup.w3;omega
  ·show 0<18446744073709551616;omega
  ·show 0<18446744073709551616;omega
  ·show 0<18446744073709551616;omega
  ·show 4294967296+Nd s.first<18446744073709551616
   have:=Gn s.first;omega
 intro e he;unfold Dr at he
 rcases List.mem_cons.1 he with rfl | he
 ·simp
 ·obtain⟨k,hk,rfl⟩:=List.mem_map.1 he
  have:=h0 k (List.mem_range.1 hk);simp only;omega
def Qf5(s:Sup)(i:Nat)(C:Nat->Int)(x:Nat):Int:=Qu (Dr s i) (C x) x
def Qg8(C:Nat->Int)(x:Nat):Int:=Qu [(56,0),(120,0)] (C x) x
theorem Qvd(s:Sup)(i:Nat)(C:Nat->Int):cpW (Qf5 s i C) i=s.words/\∀ q,q≠i->cpW (Qf5 s i C) q=cpW C q:=by
 have h:=Qwy s i 9 C (Qf5 s i C) (by omega) (fun x=>by rw[List.take_of_length_le (by rw[Rs];simp)];rfl);exact⟨h.2.2 rfl,h.1⟩
theorem Q0u(C:Nat->Int):(cpW (Qg8 C) 0).getD 7 0=0/\(cpW (Qg8 C) 1).getD 7 0=0:=⟨rfl,rfl⟩
section
variable{D:Dev}{C:Nat->Int}{j n x:Nat}
theorem SCl.prog(h:SCl D j n C x){s:Sup}(hf:s.Fits){i:Nat}(hi:i<n):SCl (D.run j (sbP s i)) j n (Qf5 s i C) (x+19):=by
 have:=(h.stores (ws:=Dr s i) (fun e he=>⟨(Ff s i n hi e he).1,(Ff s i n hi e he).2.1⟩) (Qyq hf i));exact this.mono (by have:=Qbc s i;show x+(sbP s i).length<=_;omega)
theorem SCl.format(h:SCl D j n C x){s:Sup}(hf:s.Fits)(hn:2<=n):SCl (D.run j (Gc++sbP s 0)) j n (Qf5 s 0 (Qg8 C)) (x+24):=by
 rw[Dev.run_append];have h1:=h.stores (ws := [(56,0),(120,0)]) (fun e he=>by
  simp at he
  rcases he with rfl | rfl
  ·exact⟨rfl,by show 56<64*n;omega⟩
  ·exact⟨rfl,by show 120<64*n;omega⟩) (fun e he=>by simp at he;rcases he with rfl | rfl <;> simp)
 exact(SCl.prog (h1.mono (y:=x+5) (by have:=Nf;show x+Gc.length<=_;omega)) hf (by omega)).mono (by omega)
end
theorem Qjx(s:Sup)(hk:s.Ok)(hg:0<=s.gen)(C:Nat->Int){n:Nat}(hl:s.lin<=n) :
  cpG (Qf5 s 0 (Qg8 C)) n 1=false/\cpG (Qf5 s 0 (Qg8 C)) n 0=true/\Np (Qf5 s 0 (Qg8 C)) n=true/\Kz (Qf5 s 0 (Qg8 C)) n=0/\Vn (Qf5 s 0 (Qg8 C)) n=s:=by
 obtain⟨h0,h1⟩:=Qvd s 0 (Qg8 C);have g1:cpG (Qf5 s 0 (Qg8 C)) n 1=false:=by unfold cpG;rw[h1 1 (by omega)];exact Qfg (Q0u C).2
 have hw:=Be s hk hg hl;have g0:cpG (Qf5 s 0 (Qg8 C)) n 0=true:=by unfold cpG;rw[h0];exact hw.1
 have hb:Qhq (Qf5 s 0 (Qg8 C)) n=false:=by unfold Qhq;rw[g1];rfl
 have ha:Kz (Qf5 s 0 (Qg8 C)) n=0:=by unfold Kz;rw[hb];rfl
 refine⟨g1,g0,by unfold Np;rw[hb,g0];rfl,ha,?_⟩
 unfold Vn cpS;rw[ha,h0];exact hw.2
theorem Qox{C:Nat->Int}{n:Nat}(h:Np C n=true):cpG C n (Kz C n)=true:=by
 unfold Np at h;unfold Kz
 cases hb:Qhq C n
 ·rw[hb]at h;simpa using h
 ·unfold Qhq at hb;simp only[Bool.and_eq_true]at hb;simpa using hb.1
theorem Qjy(s:Sup)(hk:s.Ok)(C F:Nat->Int){n:Nat}(hl:s.lin<=n)(hG:Np C n=true)(hg:(Vn C n).gen<s.gen)(h0:0<=s.gen)(hn:cpW F (1-Kz C n)=s.words)(ho:cpW F (Kz C n)=cpW C (Kz C n)) :
  Np F n=true/\Vn F n=s/\Kz F n=1-Kz C n:=by
 have hgd:=Qox hG;have hw:=Be s hk h0 hl;have ha:Kz C n=0\/Kz C n=1:=by unfold Kz;split <;> simp
 unfold Vn at hg
 rcases ha with ha | ha
 ·rw[ha]at hgd hn ho hg ⊢
  have g1:cpG F n 1=true:=by unfold cpG;rw[hn];exact hw.1
  have s1:cpS F n 1=s:=by unfold cpS;rw[hn];exact hw.2
  have s0:cpS F n 0=cpS C n 0:=by unfold cpS;rw[ho]
  have hb:Qhq F n=true:=by
   unfold Qhq;rw[g1,s1,s0];simp[hg]
  have hA:Kz F n=1:=by unfold Kz;rw[hb];rfl
  exact⟨by unfold Np;rw[hb];rfl,by unfold Vn;rw[hA];exact s1,hA⟩
 ·rw[ha]at hgd hn ho hg ⊢
  have g0:cpG F n 0=true:=by unfold cpG;rw[hn];exact hw.1
  have s0:cpS F n 0=s:=by unfold cpS;rw[hn];exact hw.2
  have s1:cpS F n 1=cpS C n 1:=by unfold cpS;rw[ho]
  have hb:Qhq F n=false:=by
   unfold Qhq;rw[g0,s1,s0];have:¬ s.gen<(cpS C n 1).gen:=by omega
   simp[this]
  have hA:Kz F n=0:=by unfold Kz;rw[hb];rfl
  exact⟨by unfold Np;rw[hb,g0];rfl,by unfold Vn;rw[hA];exact s0,hA⟩
end

section
open Go.Maps
attribute [local go_sem ↓] Go.wp_at_zero Go.wp_at_succ
section
variable{w wb:World}{v:DV}{own:Nat->Option Qp}{D D1:Dev}{a n:Nat}{q:List (Nat×Nat×Int)}{ok:(Nat->Int)->Prop}{g:(Nat->Int)->Bool->Bool}
theorem Qr.above{w w':World}{D':Dev}{B:Nat}(h:Qr v own w D' w')(ho:∀ k,own k≠none->B<=k)(hB:B<=w.heap.size):Below B w w':=by
 obtain⟨_,_,_,u⟩:=h;exact⟨u.os,u.tape,u.output,u.size,fun k hk=>u.block k (by omega) (fun e=>by have:=ho k e;omega)⟩
structure Pst(B:Nat)(w0:World)(v:DV)(D:Dev)(own:Nat->Option Qp)(w:World):Prop where
 dev:IsDev w v own D
 ab:∀ k,own k≠none->B<=k
 bel:Below B w0 w
 le:B<=w0.heap.size
theorem Pst.start{B:Nat}(h:IsDev w v own D)(ho:∀ k,own k≠none->B<=k)(hB:B<=w.heap.size):Pst B w v D own w:=⟨h,ho,Below.refl _ _,hB⟩
theorem Pst.size{B:Nat}{w0:World}(P:Pst B w0 v D own w):B<=w.heap.size:=Nat.le_trans P.le P.bel.size
theorem Pst.next{B:Nat}{w0 w':World}(P:Pst B w0 v D own w)(hb:Below w.heap.size w w'):Pst B w0 v D own w':=⟨P.dev.below hb,P.ab,P.bel.trans (hb.mono P.size),P.le⟩
theorem Pst.drew{B:Nat}{w0:World}(P:Pst B w0 v D own w):Pst B w0 v D own w.drew:=P.next (Below.refl _ _).drew
theorem Pst.post{B:Nat}{w0 w':World}{D':Dev}(P:Pst B w0 v D own w)(h:Qr v own w D' w'):∃ own',Pst B w0 v D' own' w':=by
 have hb:=h.above P.ab P.size;obtain⟨own',d,o,_⟩:=h;refine⟨own',d,fun k hk => ?_,P.bel.trans hb,P.le⟩
 by_cases h1:k<w.heap.size
 ·rw[o k h1]at hk;exact P.ab k hk
 ·have:=P.size;omega
theorem Pst.set{B:Nat}{w0:World}(P:Pst B w0 v D own w){p:Addr}(hp:B<=p.block)(ho:own p.block=none)(u:Value):Pst B w0 v D own (w.setCell p u):=
 ⟨P.dev.kept (by simp[World.setCell]) (fun k hk=>Below.heap_setCell _ _ _ _ (by intro e;subst e;exact hk ho)),P.ab,P.bel.setCell hp u,P.le⟩
structure SyP(wb:World)(a n:Nat)(D1:Dev)(q:List (Nat×Nat×Int))(ok:(Nat->Int)->Prop)(g:(Nat->Int)->Bool->Bool):Prop where
 lo:64<=n
 hi:n<=4096
 dn:D1.n=n
 vb:D1.VB
 ex:D1.exec+q.length<200
 tot:Qd2 D1=0
 len:q.length<=60
 okq:∀ e∈q,OkQ n e
 setup:∀ (wx:World) (v:DV) (own:Nat->Option Qp) (B:Nat),Below wb.heap.size wb wx->(∀ k,own k≠none->B<=k)->wb.heap.size<=B->B<=wx.heap.size->IsDev wx v own (Dev.fresh n (fun _=>0)) ->
  Calls Tryz.prog 305 #[.pointer (some ⟨a,0,none⟩),.pointer (some ⟨v.db,0,none⟩)] wx fun r w'=>r = .returned (.int .i64 0)/\∃ own',Pst B wx v D1 own' w'
 prog:∀ (wx:World) (v:DV) (own:Nat->Option Qp),Below wb.heap.size wb wx->(∀ k,own k≠none->wb.heap.size<=k)->IsDev wx v own D1 ->
  Calls Tryz.prog 304 #[.pointer (some ⟨a,0,none⟩),.iface 40 (.pointer (some ⟨v.tb 0,0,none⟩))] wx fun r w'=>∃ sv,r = .returned (.tuple #[sv,.int .i64 0])/\Acc wx wx.heap.size w' 73 3 sv q.length (Qd q)
 good:∀ (wx:World) (v:DV) (own:Nat->Option Qp) (D:Dev) (x:Nat) (F:Nat->Int) (B:Nat) (e:Bool),Below wb.heap.size wb wx->ok F->SCl D 0 n F x->x<=1000->IsDev wx v own D->(∀ k,own k≠none->B<=k)->wb.heap.size<=B->B<=wx.heap.size ->
  Calls Tryz.prog 303 #[.pointer (some ⟨a,0,none⟩),.pointer (some ⟨v.db,0,none⟩),.bool e] wx fun r w'=>r = .returned (.bool (g F e))/\Below B wx w'
theorem SyP.next(P:SyP wb a n D1 q ok g)(hb:Below wb.heap.size wb w):SyP w a n D1 q ok g:=
 ⟨P.lo,P.hi,P.dn,P.vb,P.ex,P.tot,P.len,P.okq,fun wx v own B h ho hB=>P.setup wx v own B (hb.trans (h.mono hb.size)) ho (Nat.le_trans hb.size hB),fun wx v own h ho=>P.prog wx v own (hb.trans (h.mono hb.size)) (fun k hk=>Nat.le_trans hb.size (ho k hk)),fun wx v own D x F B e h hk hS hx hd ho hB=>P.good wx v own D x F B e (hb.trans (h.mono hb.size)) hk hS hx hd ho (Nat.le_trans hb.size hB)⟩
theorem Kk(a:Addr)(w:World):(method 461 160 (.pointer (some a)) "Program").run prog w = .ok (304,.pointer (some a)) w:=by kernel_rfl
theorem Wr(a:Addr)(w:World):(method 461 160 (.pointer (some a)) "Good").run prog w = .ok (303,.pointer (some a)) w:=by kernel_rfl
theorem Wu(a:Addr)(w:World):(nilAhead 461 160 (.pointer (some a)) "Program").run prog w = .ok (some false) w:=by kernel_rfl
end
end

section
open Go.Maps
attribute [local go_sem ↓] Go.wp_at_zero Go.wp_at_succ
section
variable{w:World}{v:DV}{own:Nat->Option Qp}{D:Dev}{a:Nat}{c:Array Value}{F1 F2 F3:Value}
theorem Qgm(hb:Blk w a #[.func (.func 81) #[] c,F2,F3] 166)(h:IsDev w v own D)(hn:64<=D.n){R:Int->World->Prop}
  (H:Calls prog 81 (#[(.iface 40 (.pointer (some ⟨v.tb 0,0,none⟩)))]++c) w.drew fun r w'=>∃ x,r = .returned (.int .i64 x)/\R x w') :
  Calls prog 305 #[.pointer (some ⟨a,0,none⟩),.pointer (some ⟨v.db,0,none⟩)] w fun r w'=>∃ x,r = .returned (.int .i64 x)/\R x w':=by
 have HL:=hid (Ul h);have HTH:=hid (Xa h.drew);have HC:=hid H;have c0:=hb.cell (i:=0) rfl;have cd:=hb.drew.cell (i:=0) rfl;obtain⟨k,hk⟩:∃ k,D.n=k:=⟨_,rfl⟩;rw[hk]at HL hn;have hn':¬ (k:Int)<64:=by omega
 clear h H hk
 go_enter func305,ntmps305
 go_wp2_with fail
 (with_reducible refine HL.out.mono ?_)
 rintro r w1 ⟨rfl,rfl⟩;go_wp2_with fail
 go_region_with (first | (go_at_call 11;(with_reducible refine HTH.out.mono ?_);rintro e w' ⟨rfl,rfl⟩) | (go_at_call 81;(with_reducible refine HC.out.mono ?_);rintro e w3 ⟨x,rfl,hR⟩;have HR:=hid hR;clear hR))
 all_goals
  go_wp2_with fail
  go_ret
  exact⟨_,rfl,HR.out⟩
theorem Qgn(hb:Blk w a #[.func (.func 88) #[] c,F2,F3] 166)(h:IsDev w v own D)(hn:64<=D.n){R:Int->World->Prop}
  (H:Calls prog 88 (#[(.iface 40 (.pointer (some ⟨v.tb 0,0,none⟩)))]++c) w.drew fun r w'=>∃ x,r = .returned (.int .i64 x)/\R x w') :
  Calls prog 305 #[.pointer (some ⟨a,0,none⟩),.pointer (some ⟨v.db,0,none⟩)] w fun r w'=>∃ x,r = .returned (.int .i64 x)/\R x w':=by
 have HL:=hid (Ul h);have HTH:=hid (Xa h.drew);have HC:=hid H;have c0:=hb.cell (i:=0) rfl;have cd:=hb.drew.cell (i:=0) rfl;obtain⟨k,hk⟩:∃ k,D.n=k:=⟨_,rfl⟩;rw[hk]at HL hn;have hn':¬ (k:Int)<64:=by omega
 clear h H hk
 go_enter func305,ntmps305
 go_wp2_with fail
 (with_reducible refine HL.out.mono ?_)
 rintro r w1 ⟨rfl,rfl⟩;go_wp2_with fail
 go_region_with (first | (go_at_call 11;(with_reducible refine HTH.out.mono ?_);rintro e w' ⟨rfl,rfl⟩) | (go_at_call 88;(with_reducible refine HC.out.mono ?_);rintro e w3 ⟨x,rfl,hR⟩;have HR:=hid hR;clear hR))
 all_goals
  go_wp2_with fail
  go_ret
  exact⟨_,rfl,HR.out⟩
theorem Qgo(hb:Blk w a #[.func (.func 99) #[] c,F2,F3] 166)(h:IsDev w v own D)(hn:64<=D.n){R:Int->World->Prop}
  (H:Calls prog 99 (#[(.iface 40 (.pointer (some ⟨v.tb 0,0,none⟩)))]++c) w.drew fun r w'=>∃ x,r = .returned (.int .i64 x)/\R x w') :
  Calls prog 305 #[.pointer (some ⟨a,0,none⟩),.pointer (some ⟨v.db,0,none⟩)] w fun r w'=>∃ x,r = .returned (.int .i64 x)/\R x w':=by
 have HL:=hid (Ul h);have HTH:=hid (Xa h.drew);have HC:=hid H;have c0:=hb.cell (i:=0) rfl;have cd:=hb.drew.cell (i:=0) rfl;obtain⟨k,hk⟩:∃ k,D.n=k:=⟨_,rfl⟩;rw[hk]at HL hn;have hn':¬ (k:Int)<64:=by omega
 clear h H hk
 go_enter func305,ntmps305
 go_wp2_with fail
 (with_reducible refine HL.out.mono ?_)
 rintro r w1 ⟨rfl,rfl⟩;go_wp2_with fail
 go_region_with (first | (go_at_call 11;(with_reducible refine HTH.out.mono ?_);rintro e w' ⟨rfl,rfl⟩) | (go_at_call 99;(with_reducible refine HC.out.mono ?_);rintro e w3 ⟨x,rfl,hR⟩;have HR:=hid hR;clear hR))
 all_goals
  go_wp2_with fail
  go_ret
  exact⟨_,rfl,HR.out⟩
theorem Qgp(hb:Blk w a #[.func (.func 109) #[] c,F2,F3] 166)(h:IsDev w v own D)(hn:64<=D.n){R:Int->World->Prop}
  (H:Calls prog 109 (#[(.iface 40 (.pointer (some ⟨v.tb 0,0,none⟩)))]++c) w.drew fun r w'=>∃ x,r = .returned (.int .i64 x)/\R x w') :
  Calls prog 305 #[.pointer (some ⟨a,0,none⟩),.pointer (some ⟨v.db,0,none⟩)] w fun r w'=>∃ x,r = .returned (.int .i64 x)/\R x w':=by
 have HL:=hid (Ul h);have HTH:=hid (Xa h.drew);have HC:=hid H;have c0:=hb.cell (i:=0) rfl;have cd:=hb.drew.cell (i:=0) rfl;obtain⟨k,hk⟩:∃ k,D.n=k:=⟨_,rfl⟩;rw[hk]at HL hn;have hn':¬ (k:Int)<64:=by omega
 clear h H hk
 go_enter func305,ntmps305
 go_wp2_with fail
 (with_reducible refine HL.out.mono ?_)
 rintro r w1 ⟨rfl,rfl⟩;go_wp2_with fail
 go_region_with (first | (go_at_call 11;(with_reducible refine HTH.out.mono ?_);rintro e w' ⟨rfl,rfl⟩) | (go_at_call 109;(with_reducible refine HC.out.mono ?_);rintro e w3 ⟨x,rfl,hR⟩;have HR:=hid hR;clear hR))
 all_goals
  go_wp2_with fail
  go_ret
  exact⟨_,rfl,HR.out⟩
theorem Qgq(hb:Blk w a #[.func (.func 113) #[] c,F2,F3] 166)(h:IsDev w v own D)(hn:64<=D.n){R:Int->World->Prop}
  (H:Calls prog 113 (#[(.iface 40 (.pointer (some ⟨v.tb 0,0,none⟩)))]++c) w.drew fun r w'=>∃ x,r = .returned (.int .i64 x)/\R x w') :
  Calls prog 305 #[.pointer (some ⟨a,0,none⟩),.pointer (some ⟨v.db,0,none⟩)] w fun r w'=>∃ x,r = .returned (.int .i64 x)/\R x w':=by
 have HL:=hid (Ul h);have HTH:=hid (Xa h.drew);have HC:=hid H;have c0:=hb.cell (i:=0) rfl;have cd:=hb.drew.cell (i:=0) rfl;obtain⟨k,hk⟩:∃ k,D.n=k:=⟨_,rfl⟩;rw[hk]at HL hn;have hn':¬ (k:Int)<64:=by omega
 clear h H hk
 go_enter func305,ntmps305
 go_wp2_with fail
 (with_reducible refine HL.out.mono ?_)
 rintro r w1 ⟨rfl,rfl⟩;go_wp2_with fail
 go_region_with (first | (go_at_call 11;(with_reducible refine HTH.out.mono ?_);rintro e w' ⟨rfl,rfl⟩) | (go_at_call 113;(with_reducible refine HC.out.mono ?_);rintro e w3 ⟨x,rfl,hR⟩;have HR:=hid hR;clear hR))
 all_goals
  go_wp2_with fail
  go_ret
  exact⟨_,rfl,HR.out⟩
theorem Qgr(hb:Blk w a #[.func (.func 122) #[] c,F2,F3] 166)(h:IsDev w v own D)(hn:64<=D.n){R:Int->World->Prop}
  (H:Calls prog 122 (#[(.iface 40 (.pointer (some ⟨v.tb 0,0,none⟩)))]++c) w.drew fun r w'=>∃ x,r = .returned (.int .i64 x)/\R x w') :
  Calls prog 305 #[.pointer (some ⟨a,0,none⟩),.pointer (some ⟨v.db,0,none⟩)] w fun r w'=>∃ x,r = .returned (.int .i64 x)/\R x w':=by
 have HL:=hid (Ul h);have HTH:=hid (Xa h.drew);have HC:=hid H;have c0:=hb.cell (i:=0) rfl;have cd:=hb.drew.cell (i:=0) rfl;obtain⟨k,hk⟩:∃ k,D.n=k:=⟨_,rfl⟩;rw[hk]at HL hn;have hn':¬ (k:Int)<64:=by omega
 clear h H hk
 go_enter func305,ntmps305
 go_wp2_with fail
 (with_reducible refine HL.out.mono ?_)
 rintro r w1 ⟨rfl,rfl⟩;go_wp2_with fail
 go_region_with (first | (go_at_call 11;(with_reducible refine HTH.out.mono ?_);rintro e w' ⟨rfl,rfl⟩) | (go_at_call 122;(with_reducible refine HC.out.mono ?_);rintro e w3 ⟨x,rfl,hR⟩;have HR:=hid hR;clear hR))
 all_goals
  go_wp2_with fail
  go_ret
  exact⟨_,rfl,HR.out⟩
theorem Qbg(hb:Blk w a #[F1,.func (.func 83) #[] c,F3] 166){R:Value->Int->World->Prop}
  (H:Calls prog 83 (#[(.iface 40 (.pointer (some ⟨v.tb 0,0,none⟩)))]++c) w fun r w'=>∃ sv x,r = .returned (.tuple #[sv,.int .i64 x])/\R sv x w') :
  Calls prog 304 #[.pointer (some ⟨a,0,none⟩),(.iface 40 (.pointer (some ⟨v.tb 0,0,none⟩)))] w fun r w'=>∃ sv x,r = .returned (.tuple #[sv,.int .i64 x])/\R sv x w':=by
 have HC:=hid H;have c0:=hb.cell (i:=1) rfl;clear H
 go_enter func304,ntmps304
 go_wp2_with fail
 (with_reducible refine HC.out.mono ?_)
 rintro r w1 ⟨sv,x,rfl,hR⟩;have HR:=hid hR;clear hR
 go_wp2_with fail
 go_ret2
 exact⟨_,_,rfl,HR.out⟩
theorem Qbh(hb:Blk w a #[F1,.func (.func 91) #[] c,F3] 166){R:Value->Int->World->Prop}
  (H:Calls prog 91 (#[(.iface 40 (.pointer (some ⟨v.tb 0,0,none⟩)))]++c) w fun r w'=>∃ sv x,r = .returned (.tuple #[sv,.int .i64 x])/\R sv x w') :
  Calls prog 304 #[.pointer (some ⟨a,0,none⟩),(.iface 40 (.pointer (some ⟨v.tb 0,0,none⟩)))] w fun r w'=>∃ sv x,r = .returned (.tuple #[sv,.int .i64 x])/\R sv x w':=by
 have HC:=hid H;have c0:=hb.cell (i:=1) rfl;clear H
 go_enter func304,ntmps304
 go_wp2_with fail
 (with_reducible refine HC.out.mono ?_)
 rintro r w1 ⟨sv,x,rfl,hR⟩;have HR:=hid hR;clear hR
 go_wp2_with fail
 go_ret2
 exact⟨_,_,rfl,HR.out⟩
theorem Qbi(hb:Blk w a #[F1,.func (.func 101) #[] c,F3] 166){R:Value->Int->World->Prop}
  (H:Calls prog 101 (#[(.iface 40 (.pointer (some ⟨v.tb 0,0,none⟩)))]++c) w fun r w'=>∃ sv x,r = .returned (.tuple #[sv,.int .i64 x])/\R sv x w') :
  Calls prog 304 #[.pointer (some ⟨a,0,none⟩),(.iface 40 (.pointer (some ⟨v.tb 0,0,none⟩)))] w fun r w'=>∃ sv x,r = .returned (.tuple #[sv,.int .i64 x])/\R sv x w':=by
 have HC:=hid H;have c0:=hb.cell (i:=1) rfl;clear H
 go_enter func304,ntmps304
 go_wp2_with fail
 (with_reducible refine HC.out.mono ?_)
 rintro r w1 ⟨sv,x,rfl,hR⟩;have HR:=hid hR;clear hR
 go_wp2_with fail
 go_ret2
 exact⟨_,_,rfl,HR.out⟩
theorem Qbj(hb:Blk w a #[F1,.func (.func 110) #[] c,F3] 166){R:Value->Int->World->Prop}
  (H:Calls prog 110 (#[(.iface 40 (.pointer (some ⟨v.tb 0,0,none⟩)))]++c) w fun r w'=>∃ sv x,r = .returned (.tuple #[sv,.int .i64 x])/\R sv x w') :
  Calls prog 304 #[.pointer (some ⟨a,0,none⟩),(.iface 40 (.pointer (some ⟨v.tb 0,0,none⟩)))] w fun r w'=>∃ sv x,r = .returned (.tuple #[sv,.int .i64 x])/\R sv x w':=by
 have HC:=hid H;have c0:=hb.cell (i:=1) rfl;clear H
 go_enter func304,ntmps304
 go_wp2_with fail
 (with_reducible refine HC.out.mono ?_)
 rintro r w1 ⟨sv,x,rfl,hR⟩;have HR:=hid hR;clear hR
 go_wp2_with fail
 go_ret2
 exact⟨_,_,rfl,HR.out⟩
theorem Qbk(hb:Blk w a #[F1,.func (.func 115) #[] c,F3] 166){R:Value->Int->World->Prop}
  (H:Calls prog 115 (#[(.iface 40 (.pointer (some ⟨v.tb 0,0,none⟩)))]++c) w fun r w'=>∃ sv x,r = .returned (.tuple #[sv,.int .i64 x])/\R sv x w') :
  Calls prog 304 #[.pointer (some ⟨a,0,none⟩),(.iface 40 (.pointer (some ⟨v.tb 0,0,none⟩)))] w fun r w'=>∃ sv x,r = .returned (.tuple #[sv,.int .i64 x])/\R sv x w':=by
 have HC:=hid H;have c0:=hb.cell (i:=1) rfl;clear H
 go_enter func304,ntmps304
 go_wp2_with fail
 (with_reducible refine HC.out.mono ?_)
 rintro r w1 ⟨sv,x,rfl,hR⟩;have HR:=hid hR;clear hR
 go_wp2_with fail
 go_ret2
 exact⟨_,_,rfl,HR.out⟩
theorem Qbl(hb:Blk w a #[F1,.func (.func 125) #[] c,F3] 166){R:Value->Int->World->Prop}
  (H:Calls prog 125 (#[(.iface 40 (.pointer (some ⟨v.tb 0,0,none⟩)))]++c) w fun r w'=>∃ sv x,r = .returned (.tuple #[sv,.int .i64 x])/\R sv x w') :
  Calls prog 304 #[.pointer (some ⟨a,0,none⟩),(.iface 40 (.pointer (some ⟨v.tb 0,0,none⟩)))] w fun r w'=>∃ sv x,r = .returned (.tuple #[sv,.int .i64 x])/\R sv x w':=by
 have HC:=hid H;have c0:=hb.cell (i:=1) rfl;clear H
 go_enter func304,ntmps304
 go_wp2_with fail
 (with_reducible refine HC.out.mono ?_)
 rintro r w1 ⟨sv,x,rfl,hR⟩;have HR:=hid hR;clear hR
 go_wp2_with fail
 go_ret2
 exact⟨_,_,rfl,HR.out⟩
theorem Qkv(hb:Blk w a #[F1,F2,.func (.func 84) #[] c] 166)(h:IsDev w v own D)(e:Bool){R:Bool->World->Prop}
  (H:Calls prog 84 (#[(.iface 40 (.pointer (some ⟨v.tb 0,0,none⟩))),.bool e]++c) w.drew fun r w'=>∃ x,r = .returned (.bool x)/\R x w') :
  Calls prog 303 #[.pointer (some ⟨a,0,none⟩),.pointer (some ⟨v.db,0,none⟩),.bool e] w fun r w'=>∃ x,r = .returned (.bool x)/\R x w':=by
 have HTH:=hid (Xa h.drew);have HC:=hid H;have cd:=hb.drew.cell (i:=2) rfl;clear h H
 go_enter func303,ntmps303
 go_wp2_with fail
 go_region_with (first | (go_at_call 11;(with_reducible refine HTH.out.mono ?_);rintro e w' ⟨rfl,rfl⟩) | (go_at_call 84;(with_reducible refine HC.out.mono ?_);rintro e w3 ⟨x,rfl,hR⟩;have HR:=hid hR;clear hR))
 all_goals
  go_wp2_with fail
  go_ret
  exact⟨_,rfl,HR.out⟩
theorem Qkw(hb:Blk w a #[F1,F2,.func (.func 92) #[] c] 166)(h:IsDev w v own D)(e:Bool){R:Bool->World->Prop}
  (H:Calls prog 92 (#[(.iface 40 (.pointer (some ⟨v.tb 0,0,none⟩))),.bool e]++c) w.drew fun r w'=>∃ x,r = .returned (.bool x)/\R x w') :
  Calls prog 303 #[.pointer (some ⟨a,0,none⟩),.pointer (some ⟨v.db,0,none⟩),.bool e] w fun r w'=>∃ x,r = .returned (.bool x)/\R x w':=by
 have HTH:=hid (Xa h.drew);have HC:=hid H;have cd:=hb.drew.cell (i:=2) rfl;clear h H
 go_enter func303,ntmps303
 go_wp2_with fail
 go_region_with (first | (go_at_call 11;(with_reducible refine HTH.out.mono ?_);rintro e w' ⟨rfl,rfl⟩) | (go_at_call 92;(with_reducible refine HC.out.mono ?_);rintro e w3 ⟨x,rfl,hR⟩;have HR:=hid hR;clear hR))
 all_goals
  go_wp2_with fail
  go_ret
  exact⟨_,rfl,HR.out⟩
theorem Qkx(hb:Blk w a #[F1,F2,.func (.func 102) #[] c] 166)(h:IsDev w v own D)(e:Bool){R:Bool->World->Prop}
  (H:Calls prog 102 (#[(.iface 40 (.pointer (some ⟨v.tb 0,0,none⟩))),.bool e]++c) w.drew fun r w'=>∃ x,r = .returned (.bool x)/\R x w') :
  Calls prog 303 #[.pointer (some ⟨a,0,none⟩),.pointer (some ⟨v.db,0,none⟩),.bool e] w fun r w'=>∃ x,r = .returned (.bool x)/\R x w':=by
 have HTH:=hid (Xa h.drew);have HC:=hid H;have cd:=hb.drew.cell (i:=2) rfl;clear h H
 go_enter func303,ntmps303
 go_wp2_with fail
 go_region_with (first | (go_at_call 11;(with_reducible refine HTH.out.mono ?_);rintro e w' ⟨rfl,rfl⟩) | (go_at_call 102;(with_reducible refine HC.out.mono ?_);rintro e w3 ⟨x,rfl,hR⟩;have HR:=hid hR;clear hR))
 all_goals
  go_wp2_with fail
  go_ret
  exact⟨_,rfl,HR.out⟩
theorem Qky(hb:Blk w a #[F1,F2,.func (.func 111) #[] c] 166)(h:IsDev w v own D)(e:Bool){R:Bool->World->Prop}
  (H:Calls prog 111 (#[(.iface 40 (.pointer (some ⟨v.tb 0,0,none⟩))),.bool e]++c) w.drew fun r w'=>∃ x,r = .returned (.bool x)/\R x w') :
  Calls prog 303 #[.pointer (some ⟨a,0,none⟩),.pointer (some ⟨v.db,0,none⟩),.bool e] w fun r w'=>∃ x,r = .returned (.bool x)/\R x w':=by
 have HTH:=hid (Xa h.drew);have HC:=hid H;have cd:=hb.drew.cell (i:=2) rfl;clear h H
 go_enter func303,ntmps303
 go_wp2_with fail
 go_region_with (first | (go_at_call 11;(with_reducible refine HTH.out.mono ?_);rintro e w' ⟨rfl,rfl⟩) | (go_at_call 111;(with_reducible refine HC.out.mono ?_);rintro e w3 ⟨x,rfl,hR⟩;have HR:=hid hR;clear hR))
 all_goals
  go_wp2_with fail
  go_ret
  exact⟨_,rfl,HR.out⟩
theorem Qkz(hb:Blk w a #[F1,F2,.func (.func 116) #[] c] 166)(h:IsDev w v own D)(e:Bool){R:Bool->World->Prop}
  (H:Calls prog 116 (#[(.iface 40 (.pointer (some ⟨v.tb 0,0,none⟩))),.bool e]++c) w.drew fun r w'=>∃ x,r = .returned (.bool x)/\R x w') :
  Calls prog 303 #[.pointer (some ⟨a,0,none⟩),.pointer (some ⟨v.db,0,none⟩),.bool e] w fun r w'=>∃ x,r = .returned (.bool x)/\R x w':=by
 have HTH:=hid (Xa h.drew);have HC:=hid H;have cd:=hb.drew.cell (i:=2) rfl;clear h H
 go_enter func303,ntmps303
 go_wp2_with fail
 go_region_with (first | (go_at_call 11;(with_reducible refine HTH.out.mono ?_);rintro e w' ⟨rfl,rfl⟩) | (go_at_call 116;(with_reducible refine HC.out.mono ?_);rintro e w3 ⟨x,rfl,hR⟩;have HR:=hid hR;clear hR))
 all_goals
  go_wp2_with fail
  go_ret
  exact⟨_,rfl,HR.out⟩
theorem Qk0(hb:Blk w a #[F1,F2,.func (.func 126) #[] c] 166)(h:IsDev w v own D)(e:Bool){R:Bool->World->Prop}
  (H:Calls prog 126 (#[(.iface 40 (.pointer (some ⟨v.tb 0,0,none⟩))),.bool e]++c) w.drew fun r w'=>∃ x,r = .returned (.bool x)/\R x w') :
  Calls prog 303 #[.pointer (some ⟨a,0,none⟩),.pointer (some ⟨v.db,0,none⟩),.bool e] w fun r w'=>∃ x,r = .returned (.bool x)/\R x w':=by
 have HTH:=hid (Xa h.drew);have HC:=hid H;have cd:=hb.drew.cell (i:=2) rfl;clear h H
 go_enter func303,ntmps303
 go_wp2_with fail
 go_region_with (first | (go_at_call 11;(with_reducible refine HTH.out.mono ?_);rintro e w' ⟨rfl,rfl⟩) | (go_at_call 126;(with_reducible refine HC.out.mono ?_);rintro e w3 ⟨x,rfl,hR⟩;have HR:=hid hR;clear hR))
 all_goals
  go_wp2_with fail
  go_ret
  exact⟨_,rfl,HR.out⟩
end
end

section
open Go.Maps
attribute [local go_sem ↓] Go.wp_at_zero Go.wp_at_succ
section
variable{w:World}
theorem Pq:Calls prog 31 #[] w fun r w'=>∃ a g1,r = .returned (.iface 160 (.pointer (some ⟨a,0,none⟩)))/\Blk w' a #[.func (.func 81) #[] #[.pointer (some ⟨g1,0,none⟩)],.func (.func 83) #[] #[.pointer (some ⟨g1,0,none⟩)],.func (.func 84) #[] #[.pointer (some ⟨g1,0,none⟩)]] 166/\Blk w' g1 #[.func (.func 80) #[] #[]] 131/\w.heap.size<=g1/\w.heap.size<=a/\Below w.heap.size w w':=by
 go_enter func31,ntmps31
 go_wp2_with fail
 go_ret
 have H:=Blk.new (w.alloc (.cells #[.func (.func 80) #[] #[]] 131)) #[.func (.func 81) #[] #[.pointer (some ⟨w.heap.size,0,none⟩)],.func (.func 83) #[] #[.pointer (some ⟨w.heap.size,0,none⟩)],.func (.func 84) #[] #[.pointer (some ⟨w.heap.size,0,none⟩)]] 166;rw[World.size_alloc]at H;exact⟨_,_,rfl,H,(Blk.new w _ _).alloc _,Nat.le_refl _,by omega,(Qa _ _).trans ((Qa _ _).mono (by simp))⟩
theorem Qjr:Calls prog 32 #[] w fun r w'=>∃ a g1,r = .returned (.iface 160 (.pointer (some ⟨a,0,none⟩)))/\Blk w' a #[.func (.func 88) #[] #[.pointer (some ⟨g1,0,none⟩)],.func (.func 91) #[] #[.pointer (some ⟨g1,0,none⟩)],.func (.func 92) #[] #[.pointer (some ⟨g1,0,none⟩)]] 166/\Blk w' g1 #[.func (.func 87) #[] #[]] 167/\w.heap.size<=g1/\w.heap.size<=a/\Below w.heap.size w w':=by
 go_enter func32,ntmps32
 go_wp2_with fail
 go_ret
 have H:=Blk.new (w.alloc (.cells #[.func (.func 87) #[] #[]] 167)) #[.func (.func 88) #[] #[.pointer (some ⟨w.heap.size,0,none⟩)],.func (.func 91) #[] #[.pointer (some ⟨w.heap.size,0,none⟩)],.func (.func 92) #[] #[.pointer (some ⟨w.heap.size,0,none⟩)]] 166;rw[World.size_alloc]at H;exact⟨_,_,rfl,H,(Blk.new w _ _).alloc _,Nat.le_refl _,by omega,(Qa _ _).trans ((Qa _ _).mono (by simp))⟩
theorem Qjq:Calls prog 33 #[] w fun r w'=>∃ a g1,r = .returned (.iface 160 (.pointer (some ⟨a,0,none⟩)))/\Blk w' a #[.func (.func 99) #[] #[.pointer (some ⟨g1,0,none⟩)],.func (.func 101) #[] #[],.func (.func 102) #[] #[.pointer (some ⟨g1,0,none⟩)]] 166/\Blk w' g1 #[.func (.func 96) #[] #[]] 178/\w.heap.size<=g1/\w.heap.size<=a/\Below w.heap.size w w':=by
 go_enter func33,ntmps33
 go_wp2_with fail
 go_ret
 have H:=Blk.new (w.alloc (.cells #[.func (.func 96) #[] #[]] 178)) #[.func (.func 99) #[] #[.pointer (some ⟨w.heap.size,0,none⟩)],.func (.func 101) #[] #[],.func (.func 102) #[] #[.pointer (some ⟨w.heap.size,0,none⟩)]] 166;rw[World.size_alloc]at H;exact⟨_,_,rfl,H,(Blk.new w _ _).alloc _,Nat.le_refl _,by omega,(Qa _ _).trans ((Qa _ _).mono (by simp))⟩
theorem Qjs:Calls prog 34 #[] w fun r w'=>∃ a g1 g2,r = .returned (.iface 160 (.pointer (some ⟨a,0,none⟩)))/\Blk w' a #[.func (.func 109) #[] #[.pointer (some ⟨g2,0,none⟩)],.func (.func 110) #[] #[.pointer (some ⟨g1,0,none⟩)],.func (.func 111) #[] #[.pointer (some ⟨g2,0,none⟩)]] 166/\Blk w' g1 #[.func (.func 105) #[] #[]] 183/\w.heap.size<=g1/\Blk w' g2 #[.func (.func 106) #[] #[]] 178/\w.heap.size<=g2/\w.heap.size<=a/\Below w.heap.size w w':=by
 go_enter func34,ntmps34
 go_wp2_with fail
 go_ret
 have H2:=Blk.new (w.alloc (.cells #[.func (.func 105) #[] #[]] 183)) #[.func (.func 106) #[] #[]] 178;have H:=Blk.new ((w.alloc (.cells #[.func (.func 105) #[] #[]] 183)).alloc (.cells #[.func (.func 106) #[] #[]] 178)) #[.func (.func 109) #[] #[.pointer (some ⟨(w.heap.size+1),0,none⟩)],.func (.func 110) #[] #[.pointer (some ⟨w.heap.size,0,none⟩)],.func (.func 111) #[] #[.pointer (some ⟨(w.heap.size+1),0,none⟩)]] 166;rw[World.size_alloc]at H2;rw[World.size_alloc,World.size_alloc]at H;exact⟨_,_,_,rfl,H,((Blk.new w _ _).alloc _).alloc _,Nat.le_refl _,H2.alloc _,by omega,by omega,((Qa _ _).trans ((Qa _ _).mono (by simp))).trans ((Qa _ _).mono (by simp;omega))⟩
theorem Qc8:Calls prog 35 #[] w fun r w'=>∃ a,r = .returned (.iface 160 (.pointer (some ⟨a,0,none⟩)))/\Blk w' a #[.func (.func 113) #[] #[],.func (.func 115) #[] #[],.func (.func 116) #[] #[]] 166/\w.heap.size<=a/\Below w.heap.size w w':=by
 go_enter func35,ntmps35
 go_wp2_with fail
 go_ret
 exact⟨_,rfl,Blk.new _ _ _,Nat.le_refl _,Qa _ _⟩
theorem Qjp:Calls prog 36 #[] w fun r w'=>∃ a g1,r = .returned (.iface 160 (.pointer (some ⟨a,0,none⟩)))/\Blk w' a #[.func (.func 122) #[] #[],.func (.func 125) #[] #[.pointer (some ⟨g1,0,none⟩)],.func (.func 126) #[] #[.pointer (some ⟨g1,0,none⟩)]] 166/\Blk w' g1 #[.func (.func 121) #[] #[]] 195/\w.heap.size<=g1/\w.heap.size<=a/\Below w.heap.size w w':=by
 go_enter func36,ntmps36
 go_wp2_with fail
 go_ret
 have H:=Blk.new (w.alloc (.cells #[.func (.func 121) #[] #[]] 195)) #[.func (.func 122) #[] #[],.func (.func 125) #[] #[.pointer (some ⟨w.heap.size,0,none⟩)],.func (.func 126) #[] #[.pointer (some ⟨w.heap.size,0,none⟩)]] 166;rw[World.size_alloc]at H;exact⟨_,_,rfl,H,(Blk.new w _ _).alloc _,Nat.le_refl _,by omega,(Qa _ _).trans ((Qa _ _).mono (by simp))⟩
end
end

section
def fld(w sh wd:Nat):Nat:=w/2 ^ sh%2 ^ wd
def Qec(w sh wd v:Nat):Nat:=2 ^ sh*(2 ^ wd*(w/2 ^ (sh+wd))+v%2 ^ wd)+w%2 ^ sh
theorem Ug(w sh wd i:Nat):(fld w sh wd).testBit i=(decide (i<wd)&&w.testBit (sh+i)):=by
 unfold fld;rw[Nat.testBit_mod_two_pow,Nat.testBit_div_two_pow,Nat.add_comm]
theorem Kf(w sh wd v i:Nat):(Qec w sh wd v).testBit i=if sh<=i/\i<sh+wd then v.testBit (i-sh)else w.testBit i:=by
 unfold Qec;rw[Nat.testBit_two_pow_mul_add _ (Nat.mod_lt _ (Nat.two_pow_pos sh))]
 by_cases h1:i<sh
 ·rw[if_pos h1,if_neg (by omega),Nat.testBit_mod_two_pow]
  simp[h1]
 ·rw[if_neg h1,Nat.testBit_two_pow_mul_add _ (Nat.mod_lt _ (Nat.two_pow_pos wd))]
  by_cases h2:i-sh<wd
  ·rw[if_pos h2,if_pos (by omega),Nat.testBit_mod_two_pow]
   simp[h2]
  ·rw[if_neg h2,if_neg (by omega),Nat.testBit_div_two_pow]
   congr 1;omega
theorem Ck{w sh wd v n:Nat}(hw:w<2 ^ n)(h:sh+wd<=n):Qec w sh wd v<2 ^ n:=by
 refine Nat.lt_pow_two_of_testBit _ fun i hi => ?_
 rw[Kf,if_neg (by omega)];exact Nat.testBit_lt_two_pow (Nat.lt_of_lt_of_le hw (Nat.pow_le_pow_right (by omega) hi))
theorem Iw(w sh wd v:Nat):fld (Qec w sh wd v) sh wd=v%2 ^ wd:=by
 refine Nat.eq_of_testBit_eq fun i => ?_
 rw[Ug,Kf,Nat.testBit_mod_two_pow]
 by_cases h:i<wd
 ·rw[if_pos (by omega)]
  simp[h]
 ·simp[h]
theorem Xh(w sh wd v sh' wd':Nat)(h:sh'+wd'<=sh\/sh+wd<=sh'):fld (Qec w sh wd v) sh' wd'=fld w sh' wd':=by
 refine Nat.eq_of_testBit_eq fun i => ?_
 rw[Ug,Ug,Kf]
 by_cases hi:i<wd'
 ·rw[if_neg (by omega)]
 ·simp[hi]
theorem Qse(sh wd:Nat):fld 0 sh wd=0:=by unfold fld;simp
theorem Qp3(w sh wd v:Nat):((w ^^^ (w &&& ((2 ^ wd-1)*2 ^ sh))) ||| ((v &&& (2 ^ wd-1))*2 ^ sh))=Qec w sh wd v:=by
 refine Nat.eq_of_testBit_eq fun i => ?_
 rw[Kf];simp only[Nat.testBit_or,Nat.testBit_xor,Nat.testBit_and,Nat.testBit_mul_two_pow,Nat.testBit_two_pow_sub_one]
 by_cases h1:sh<=i
 ·by_cases h2:i<sh+wd
  ·rw[if_pos ⟨h1,h2⟩]
   have:i-sh<wd:=by omega
   simp[h1,this]
  ·rw[if_neg (by omega)]
   have:¬ i-sh<wd:=by omega
   simp[this]
 ·rw[if_neg (by omega)]
  simp[h1]
theorem Tw(a b:Nat)(ha:a<18446744073709551616)(hb:b<18446744073709551616):bits .andNot .u64 (a:Int) (b:Int)=((a ^^^ (a &&& b):Nat):Int):=by
 have ha':a%2 ^ 64=a:=Nat.mod_eq_of_lt ha;have hb':b%2 ^ 64=b:=Nat.mod_eq_of_lt hb;have e:((BitVec.ofNat 64 a) &&& ~~~(BitVec.ofNat 64 b)).toNat=a ^^^ (a &&& b):=by
  refine Nat.eq_of_testBit_eq fun i => ?_
  rw[<- BitVec.getLsbD,BitVec.getLsbD_and,BitVec.getLsbD_not,BitVec.getLsbD_ofNat,BitVec.getLsbD_ofNat,Nat.testBit_xor,Nat.testBit_and]
  by_cases hi:i<64
  ·simp[hi]
   cases a.testBit i <;> cases b.testBit i <;> rfl
  ·have:a.testBit i=false:=Nat.testBit_lt_two_pow (Nat.lt_of_lt_of_le ha (Nat.pow_le_pow_right (n:=2) (by omega) (show 64<=i by omega)))
   simp[hi,this]
 have hlt:a ^^^ (a &&& b)<18446744073709551616:=Nat.xor_lt_two_pow (n:=64) ha (Nat.and_lt_two_pow (n:=64) _ hb);have e2:bits .andNot .u64 (a:Int) (b:Int)=IntKind.u64.wrap ((((BitVec.ofNat 64 a) &&& ~~~(BitVec.ofNat 64 b)).toNat:Nat):Int):=by
  simp only[bits,BitVec.ofInt_natCast]
  rfl
 rw[e2,e];exact IntWalk.u64_in _ (by omega)
def Bu(x:Nat):Nat:=
 let y:=((x ^^^ x/2 ^ 30)*13787848793156543929)%18446744073709551616
 let z:=((y ^^^ y/2 ^ 27)*10723151780598845931)%18446744073709551616
 z ^^^ z/2 ^ 31
theorem Qob(x:Nat):Bu x<18446744073709551616:=by
 unfold Bu;simp only;exact Nat.xor_lt_two_pow (n:=64) (Nat.mod_lt _ (by decide)) (Nat.lt_of_le_of_lt (Nat.div_le_self _ _) (Nat.mod_lt _ (by decide)))
def Xf(h s:Nat):Bool:=fld h s 1==1
def fpN(h s:Nat):Nat:=fld h (8+8*s) 8
def Yy(h s k:Nat):Nat:=Qec (Qec h s 1 1) (8+8*s) 8 (Bu k)
theorem Qho{h:Nat}(hh:h<18446744073709551616){s:Nat}(hs:s<7)(k:Nat):Yy h s k<18446744073709551616:=
 Ck (n:=64) (Ck (n:=64) hh (by omega)) (by omega)
theorem Lo(h s k t:Nat)(hs:s<7)(ht:t<7):Xf (Yy h s k) t=(decide (t=s) || Xf h t):=by
 unfold Xf Yy;rw[Xh _ _ _ _ _ _ (by omega)]
 by_cases e:t=s
 ·subst e;rw[Iw];simp
 ·rw[Xh _ _ _ _ _ _ (by omega)];simp[e]
theorem Qsi(h s k t:Nat)(hs:s<7)(ht:t<7):fpN (Yy h s k) t=if t=s then Bu k%256 else fpN h t:=by
 unfold fpN Yy
 by_cases e:t=s
 ·subst e;rw[Iw,if_pos rfl]
 ·rw[Xh _ _ _ _ _ _ (by omega),Xh _ _ _ _ _ _ (by omega),if_neg e]
theorem Ib(s:Nat):Xf 0 s=false:=by unfold Xf;rw[Qse];rfl
def Qk9(h:Nat):Nat:=((List.range 7).filter (Xf h)).length
end

section
def Vw(p:Nat->Bool):Nat->Int
 | 0 => -1
 | k+1=>if 0<=Vw p k then Vw p k else if p k then(k:Int)else -1
theorem Sg(p:Nat->Bool):∀ k,(Vw p k = -1/\∀ t,t<k->p t=false)\/∃ s,Vw p k=(s:Nat)/\s<k/\p s=true/\∀ t,t<s->p t=false:=by
 intro k
 induction k with
 | zero=>exact .inl ⟨rfl,fun t ht=>absurd ht (Nat.not_lt_zero t)⟩
 | succ k ih=>
  rcases ih with ⟨h1,h2⟩ | ⟨s,h1,h2,h3,h4⟩
  ·cases hp:p k
   ·refine .inl ⟨by unfold Vw;rw[h1,hp];rfl,fun t ht => ?_⟩
    rcases Nat.lt_or_ge t k with h | h
    ·exact h2 t h
    ·obtain rfl:t=k:=by omega
     exact hp
   ·exact .inr ⟨k,by unfold Vw;rw[h1,hp];rfl,by omega,hp,h2⟩
  ·exact .inr ⟨s,by unfold Vw;rw[h1,if_pos (by omega)],by omega,h3,h4⟩
theorem Qne{p:Nat->Bool}{k:Nat}(h:0<=Vw p k):∀ m,k<=m->Vw p m=Vw p k:=by
 intro m hm
 induction m with
 | zero => obtain rfl:k=0:=by omega
           rfl
 | succ m ih=>
  rcases Nat.lt_or_ge k (m+1)with h1 | h1
  ·have:=ih (by omega)
   show(if 0<=Vw p m then Vw p m else _)=_
   rw[this,if_pos h]
  ·obtain rfl:k=m+1:=by omega
   rfl
theorem Qnd(p:Nat->Bool)(k:Nat) : -1<=Vw p k/\Vw p k<k:=by
 rcases Sg p k with ⟨h,_⟩ | ⟨s,h,hs,_⟩ <;> omega
theorem Qja{p q:Nat->Bool}:∀ k,(∀ t,t<k->p t=q t)->Vw p k=Vw q k:=by
 intro k
 induction k with
 | zero=>intro _;rfl
 | succ k ih=>
  intro h;unfold Vw;rw[ih (fun t ht=>h t (by omega)),h k (by omega)]
def bkH(C:Nat->Int)(off:Nat):Nat:=(C (off/8)).toNat
def bkK(C:Nat->Int)(off s:Nat):Int:=C (off/8+2+2*s)
def bkV(C:Nat->Int)(off s:Nat):Int:=C (off/8+3+2*s)
def Q1p(C:Nat->Int)(off k s:Nat):Bool:=(Xf (bkH C off) s&&(fpN (bkH C off) s==Bu k%256))&&bkK C off s==(k:Int)
def Qhc(C:Nat->Int)(off k:Nat):Int:=Vw (Q1p C off k) 7
def Qff(h:Nat):Int:=Vw (fun s => !Xf h s) 7
def Qg(off s:Nat):Nat:=off+16*(s+1)
def Gl(off s:Nat):List Nat := [Qg off s,Qg off s+8].filter fun o => !(o/64==off/64)
def Qes(off s:Nat)(v:Int):List (Nat×Nat×Int):=Qe [(Qg off s+8,v)]
def Ud(off s:Nat)(k v:Int)(h:Nat):List (Nat×Nat×Int) := [(1,Qg off s,k),(1,Qg off s+8,v)]++Zs (Gl off s)++Qe [(off,(h:Int))]
theorem stores1(o:Nat)(v:Int):Qe [(o,v)] = [(1,o,v),(2,64*(o/64),0),(3,0,0)]:=rfl
theorem Qi4:Zs [] = []:=rfl
theorem Qm5(a:Nat):Zs [a] = [(2,64*(a/64),0),(3,0,0)]:=rfl
theorem Qcs(a b:Nat)(h:a/64<=b/64):Zs [a,b]=if a/64=b/64 then [(2,64*(a/64),0),(3,0,0)]else [(2,64*(a/64),0),(2,64*(b/64),0),(3,0,0)]:=by
 by_cases e:a/64=b/64
 ·rw[if_pos e]
  have:Zh [a,b] = [a/64]:=by simp[Zh,Qag,Ac,e]
  unfold Zs;rw[this];rfl
 ·rw[if_neg e]
  have h2:¬ b/64<a/64:=by omega
  have:Zh [a,b] = [a/64,b/64]:=by
   have h3:a/64<b/64:=by omega
   simp[Zh,Qag,Ac,h3]
  unfold Zs;rw[this];rfl
theorem Fr(off s:Nat)(k v:Int)(h:Nat):Ud off s k v h =
  (([(1,Qg off s,k),(1,Qg off s+8,v)]++(if Qg off s/64=off/64 then []else [(2,64*(Qg off s/64),0)])) ++
    (if(Qg off s+8)/64=off/64\/(Qg off s+8)/64=Qg off s/64 then []else [(2,64*((Qg off s+8)/64),0)])) ++
    (if Qg off s/64=off/64/\((Qg off s+8)/64=off/64\/(Qg off s+8)/64=Qg off s/64)then []else [(3,0,0)]) ++ [(1,off,(h:Int)),(2,64*(off/64),0),(3,0,0)]:=by
 unfold Ud Gl;rw[stores1];obtain⟨a,ha⟩:∃ a,Qg off s=a:=⟨_,rfl⟩;have hk:off+16<=a:=by rw[<- ha];unfold Qg;omega
 rw[ha];have hm:a/64<=(a+8)/64:=by omega
 by_cases e1:a/64=off/64
 ·by_cases e2:(a+8)/64=off/64
  ·simp[e1,e2,Qi4]
  ·have e3:¬ (a+8)/64=a/64:=by omega
   simp[e1,e2,Qm5]
 ·have e2:¬ (a+8)/64=off/64:=by omega
  have hfb:([a,a+8].filter fun o => !(o/64==off/64)) = [a,a+8]:=by simp[e1,e2]
  by_cases e3:a/64=(a+8)/64
  ·rw[hfb]
   simp[e1,Qcs _ _ hm,e3.symm]
  ·have e4:¬ (a+8)/64=a/64:=fun h=>e3 h.symm
   rw[hfb];simp[e1,e2,Qcs _ _ hm,e3,e4]
def Qas(off s:Nat)(k v:Int)(h:Nat):List Gr:=
 if Gl off s = []then [([(Qg off s,k),(Qg off s+8,v),(off,(h:Int))],[64*(off/64)])]
 else [([(Qg off s,k),(Qg off s+8,v)],Zz (Gl off s)),([(off,(h:Int))],[64*(off/64)])]
theorem Qhr(off s:Nat)(k v:Int)(h:Nat):Ud off s k v h=Qi (Qas off s k v h):=by
 unfold Ud Qas;rw[stores1]
 by_cases e:Gl off s = []
 ·rw[if_pos e,e];rfl
 ·rw[if_neg e]
  unfold Zs;rw[if_neg (fun x=>e (Ep.1 x))];simp[Qi,Zu,Zz]
theorem Ew(off s:Nat)(k v:Int)(h:Nat):(Qas off s k v h).flatMap (·.1) = [(Qg off s,k),(Qg off s+8,v),(off,(h:Int))]:=by
 unfold Qas
 split <;> rfl
theorem Qtf{off s n:Nat}(k v:Int)(h:Nat)(h8:off%8=0)(hs:s<7)(hl:off+128<=64*n):∀ g∈Qas off s k v h,Wm n g:=fun g hg=>by
 have e1:Qg off s%8=0/\Qg off s+8<64*n:=by unfold Qg;omega
 unfold Qas at hg
 split at hg
 ·simp at hg;subst hg
  refine⟨fun e he => ?_,fun o ho => ?_⟩
  ·simp at he;rcases he with rfl | rfl | rfl
   ·exact⟨e1.1,by simp only;omega⟩
   ·exact⟨by simp only;omega,e1.2⟩
   ·exact⟨h8,by simp only;omega⟩
  ·simp at ho;subst ho;omega
 ·simp at hg
  rcases hg with rfl | rfl
  ·refine⟨fun e he => ?_,Bn (fun o ho => ?_)⟩
   ·simp at he;rcases he with rfl | rfl
    ·exact⟨e1.1,by simp only;omega⟩
    ·exact⟨by simp only;omega,e1.2⟩
   ·have:=(List.mem_filter.1 ho).1
    simp at this;rcases this with rfl | rfl <;> omega
  ·refine⟨fun e he => ?_,fun o ho => ?_⟩
   ·simp at he;subst he;exact⟨h8,by simp only;omega⟩
   ·simp at ho;subst ho;omega
theorem Qfx(off s:Nat)(k v:Int)(h:Nat){S:Qei}(h0:∀ l,S.2 l = [])(l:Nat):(Bl S (Qas off s k v h)).2 l = []:=by
 have hown:Qbs [64*(off/64)] (off/64)=true:=by rw[Ft];exact⟨64*(off/64),by simp,by omega⟩
 have hno:∀ l,l≠off/64->Qbs [64*(off/64)] l=false:=fun l hl=>by
  cases e:Qbs [64*(off/64)] l
  ·rfl
  ·obtain⟨o,ho,he⟩:=(Ft _ _).1 e
   simp at ho;subst ho;omega
 unfold Qas
 split
 ·rename_i he
  show(Sp S ([(Qg off s,k),(Qg off s+8,v),(off,(h:Int))],[64*(off/64)])).2 l = []
  unfold Sp;simp only
  by_cases e:l=off/64
  ·subst e;rw[if_pos hown]
  ·rw[hno l e,h0]
   have hf:∀ o ∈ [Qg off s,Qg off s+8],o/64=off/64:=fun o ho=>by
    by_cases hq:o/64=off/64
    ·exact hq
    ·have:o∈Gl off s:=List.mem_filter.2 ⟨ho,by simpa using hq⟩
     rw[he]at this;simp at this
   have a1:=hf (Qg off s) (by simp);have a2:=hf (Qg off s+8) (by simp)
   have e1:¬ off/64=l:=fun x=>e x.symm
   simp[Yn,a1,a2,e1]
 ·rename_i he
  show(Sp (Sp S ([(Qg off s,k),(Qg off s+8,v)],Zz (Gl off s))) ([(off,(h:Int))],[64*(off/64)])).2 l = []
  unfold Sp;simp only
  by_cases e:l=off/64
  ·subst e;rw[if_pos hown]
  ·rw[hno l e]
   have e1:¬ off/64=l:=fun x=>e x.symm
   have f1:Yn [(off,(h:Int))] l = []:=by simp[Yn,e1]
   rw[f1,h0];simp only[List.nil_append,List.append_nil,Bool.false_eq_true,if_false]
   by_cases hh:Qbs (Zz (Gl off s)) l=true
   ·rw[if_pos hh]
   ·rw[if_neg hh]
    have hf:∀ o ∈ [Qg off s,Qg off s+8],¬ o/64=l:=fun o ho hl=>by
     refine hh ((Ft _ _).2 ⟨64*(o/64),?_,by omega⟩)
     exact List.mem_map.2 ⟨o/64,(Je _ _).2 ⟨o,List.mem_filter.2 ⟨ho,by simpa [hl]using e⟩,rfl⟩,rfl⟩
    have a1:=hf (Qg off s) (by simp);have a2:=hf (Qg off s+8) (by simp)
    simp[Yn,a1,a2]
structure BCl(D:Dev)(n:Nat)(C:Nat->Int)(x:Nat):Prop where
 grp:Grp D 0 n C [] []
 vb:D.VB
 exec:D.exec<=x
 ar:D.armed=false
theorem Grp.gx{D:Dev}{j n:Nat}{C:Nat->Int}(h:Grp D j n C [] []):GX D j n (C,fun _ => []) [] []:=⟨h.on,h.hst.pers,fun l=>by rw[h.hst.hist];rfl,h.yes,h.no⟩
theorem GX.grp{D:Dev}{j n:Nat}{s:Qei}(h:GX D j n s [] [])(h0:∀ l,s.2 l = []){C:Nat->Int}(hC:∀ i,s.1 i=C i):Grp D j n C [] []:=
 ⟨h.on,⟨fun i=>by rw[h.pers,hC],fun l=>by rw[h.hist,h0];rfl⟩,h.yes,h.no⟩
section
variable{D:Dev}{n x:Nat}{C:Nat->Int}
theorem BCl.mono{y:Nat}(h:BCl D n C x)(hxy:x<=y):BCl D n C y:=⟨h.grp,h.vb,Nat.le_trans h.exec hxy,h.ar⟩
theorem BCl.run(h:BCl D n C x){gs:List Gr}(hg:∀ g∈gs,Wm n g)(hc:∀ l,(Bl (C,fun _ => []) gs).2 l = [])(hv:∀ e∈gs.flatMap (·.1),0<=e.2/\e.2<18446744073709551616) :
  BCl (D.run 0 (Qi gs)) n (fun i=>Qu (gs.flatMap (·.1)) (C i) i) (x+(Qi gs).length):=by
 have hx:=D.run_exec 0 (Qi gs);have:=h.exec
 rcases Qpv h.grp.gx hg with ⟨h1,h2,_⟩ | ⟨_,_,_,_,_,_,_,_,_,h2,_⟩
 ·refine⟨h1.grp hc (fun i => ?_),Dev.VB.run _ h.vb 0 ?_,by omega,by rw[h2];exact h.ar⟩
  ·have:=Qme gs (C,fun _ => []) i
   unfold Qr2 at this;rw[hc]at this;exact this
  ·intro e he h1
   obtain⟨g,hg2,he⟩:=List.mem_flatMap.1 he;unfold Zu at he
   rcases List.mem_append.1 he with he | he
   ·rcases List.mem_append.1 he with he | he
    ·obtain⟨y,hy,rfl⟩:=List.mem_map.1 he
     exact hv y (List.mem_flatMap.2 ⟨g,hg2,hy⟩)
    ·obtain⟨y,hy,rfl⟩:=List.mem_map.1 he;cases h1
   ·simp at he;subst he;cases h1
 ·rw[h.ar]at h2;cases h2
theorem BCl.one(h:BCl D n C x){o:Nat}{v:Int}(h8:o%8=0)(hl:o<64*n)(hv:0<=v/\v<18446744073709551616) :
  BCl (D.run 0 (Qe [(o,v)])) n (fun i=>if o/8=i then v else C i) (x+3):=by
 have hg:Qe [(o,v)]=Qi [([(o,v)],[64*(o/64)])]:=rfl;have hown:Qbs [64*(o/64)] (o/64)=true:=by rw[Ft];exact⟨64*(o/64),by simp,by omega⟩
 rw[hg];refine h.run (gs := [([(o,v)],[64*(o/64)])]) (fun g hg => ?_) (fun l => ?_) (fun e he => ?_)
 ·simp at hg;subst hg
  refine⟨fun e he => ?_,fun p hp => ?_⟩
  ·simp at he;subst he;exact⟨h8,hl⟩
  ·simp at hp;subst hp;omega
 ·show(Sp (C,fun _ => []) ([(o,v)],[64*(o/64)])).2 l = []
  unfold Sp;simp only
  by_cases e:l=o/64
  ·subst e;rw[if_pos hown]
  ·by_cases hh:Qbs [64*(o/64)] l=true
   ·rw[if_pos hh]
   ·rw[if_neg hh]
    have e1:¬ o/64=l:=fun x=>e x.symm
    simp[Yn,e1]
 ·simp at he;subst he;exact hv
theorem BCl.new(h:BCl D n C x){off s:Nat}{k v:Int}{hd:Nat}(h8:off%8=0)(hs:s<7)(hl:off+128<=64*n)(hk:0<=k/\k<18446744073709551616)(hv:0<=v/\v<18446744073709551616)(hh:hd<18446744073709551616) :
  BCl (D.run 0 (Ud off s k v hd)) n (fun i=>if off/8=i then(hd:Int)else if off/8+3+2*s=i then v else if off/8+2+2*s=i then k else C i) (x+9):=by
 rw[Qhr];have hlen:(Qi (Qas off s k v hd)).length<=9:=by
  rw[<- Qhr,Fr];simp only[List.length_append,List.length_cons,List.length_nil]
  repeat' split
  all_goals simp
 have:=(h.run (Qtf k v hd h8 hs hl) (Qfx off s k v hd (fun _=>rfl)) (fun e he=>by
  rw[Ew]at he;simp at he
  rcases he with rfl | rfl | rfl
  ·exact hk
  ·exact hv
  ·exact⟨by simp only;omega,by simp only;omega⟩)).mono (y:=x+9) (by omega)
 rw[Ew]at this;have e1:Qg off s/8=off/8+2+2*s:=by unfold Qg;omega
 have e2:(Qg off s+8)/8=off/8+3+2*s:=by unfold Qg;omega
 have ef:(fun i=>Qu [(Qg off s,k),(Qg off s+8,v),(off,(hd:Int))] (C i) i)=(fun i=>if off/8=i then(hd:Int)else if off/8+3+2*s=i then v else if off/8+2+2*s=i then k else C i):=funext fun i=>by
  simp only[Qu,List.foldl_cons,List.foldl_nil,e1,e2]
 rw[ef]at this;exact this
end
end

section
section
variable{w:World}
theorem Ic(sh wd:Nat)(h1:1<=wd)(h2:sh+wd<=64):Calls prog 230 #[.int .i64 sh,.int .i64 wd] w fun r w'=>r = .returned (.bool true)/\w=w':=by
 have e1:(0:Int)<=sh:=by omega
 have e2:(1:Int)<=wd:=by omega
 have e3:(wd:Int)<=64:=by omega
 have e4:(sh:Int)<=64-wd:=by omega
 go_enter func230,ntmps230
 go_wp2_with fail
 go_ret
 exact⟨rfl,rfl⟩
theorem Qd7(wd:Nat)(h:wd=1\/wd=7\/wd=8):Calls prog 231 #[.int .i64 wd] w fun r w'=>r = .returned (.int .u64 ((2 ^ wd-1:Nat):Int))/\w=w':=by
 rcases h with rfl | rfl | rfl
 all_goals
  go_enter func231,ntmps231
  go_wp2_with fail
  go_ret
  exact⟨by rfl,rfl⟩
theorem Tg(x sh wd:Nat)(hx:x<18446744073709551616)(hw:wd=1\/wd=7\/wd=8)(h2:sh+wd<=64) :
  Calls prog 210 #[.int .u64 x,.int .i64 sh,.int .i64 wd] w fun r w'=>r = .returned (.int .u64 (fld x sh wd:Nat))/\w=w':=by
 have HV:=hid (fun wx=>Ic (w:=wx) sh wd (by omega) h2);have HM:=hid (fun wx=>Qd7 (w:=wx) wd hw)
 go_enter func210,ntmps210
 go_wp2_with fail
 (with_reducible refine(HV.out _).mono ?_)
 rintro e w' ⟨rfl,rfl⟩;go_wp2_with fail
 (with_reducible refine(HM.out _).mono ?_)
 rintro e w' ⟨rfl,rfl⟩;go_wp2_with fail
 go_ret
 refine⟨?_,rfl⟩
 have hb:x/2 ^ sh<18446744073709551616:=Nat.lt_of_le_of_lt (Nat.div_le_self _ _) hx;have hm:2 ^ wd-1<18446744073709551616:=by rcases hw with rfl | rfl | rfl <;> decide
 rw[show(x:Int)/2 ^ sh=((x/2 ^ sh:Nat):Int)by simp,bits_and_u64_nat _ _ hb hm,Nat.and_two_pow_sub_one_eq_mod]
 rfl
theorem Fm(a:Nat):IntKind.u64.wrap (a:Int)=((a%18446744073709551616:Nat):Int):=by
 simp[IntKind.wrap,IntKind.bits,IntKind.signed]
theorem Cl(a sh:Nat)(h:a*2 ^ sh<18446744073709551616):IntKind.u64.wrap ((a:Int)*2 ^ sh)=((a*2 ^ sh:Nat):Int):=by
 rw[show(a:Int)*2 ^ sh=((a*2 ^ sh:Nat):Int)by simp,Fm,Nat.mod_eq_of_lt h]
theorem Ml(x sh wd y:Nat)(hx:x<18446744073709551616)(hy:y<18446744073709551616)(hw:wd=1\/wd=7\/wd=8)(h2:sh+wd<=64) :
  Calls prog 212 #[.int .u64 x,.int .i64 sh,.int .i64 wd,.int .u64 y] w fun r w'=>r = .returned (.int .u64 (Qec x sh wd y:Nat))/\w=w':=by
 have HV:=hid (fun wx=>Ic (w:=wx) sh wd (by omega) h2);have HM:=hid (fun wx=>Qd7 (w:=wx) wd hw)
 go_enter func212,ntmps212
 go_wp2_with fail
 (with_reducible refine(HV.out _).mono ?_)
 rintro e w' ⟨rfl,rfl⟩;go_wp2_with fail
 (with_reducible refine(HM.out _).mono ?_)
 rintro e w' ⟨rfl,rfl⟩;go_wp2_with fail
 go_ret
 refine⟨?_,rfl⟩
 have hm:2 ^ wd-1<18446744073709551616:=by rcases hw with rfl | rfl | rfl <;> decide
 have hp:(2 ^ wd-1)*2 ^ sh<18446744073709551616:=by
  have:(2 ^ wd-1)*2 ^ sh<2 ^ wd*2 ^ sh:=Nat.mul_lt_mul_of_pos_right (Nat.sub_lt (Nat.two_pow_pos wd) (by decide)) (Nat.two_pow_pos sh);rw[<- Nat.pow_add]at this;exact Nat.lt_of_lt_of_le this (Nat.pow_le_pow_right (n:=2) (by omega) (show wd+sh<=64 by omega))
 have ha:y &&& (2 ^ wd-1)<=2 ^ wd-1:=Nat.and_le_right;have hq:(y &&& (2 ^ wd-1))*2 ^ sh<18446744073709551616:=Nat.lt_of_le_of_lt (Nat.mul_le_mul_right _ ha) hp;have hn:x ^^^ (x &&& ((2 ^ wd-1)*2 ^ sh))<18446744073709551616:=Nat.xor_lt_two_pow (n:=64) hx (Nat.and_lt_two_pow (n:=64) _ hp);rw[bits_and_u64_nat _ _ hy hm,Cl _ _ hp,Cl _ _ hq,Tw _ _ hx hp,bits_or_u64_nat _ _ hn hq,Qp3]
 rfl
theorem Qia(x:Nat)(hx:x<18446744073709551616):Calls prog 213 #[.int .u64 x] w fun r w'=>r = .returned (.int .u64 (Bu x:Nat))/\w=w':=by
 go_enter func213,ntmps213
 go_wp2_with fail
 go_ret
 refine⟨?_,rfl⟩
 have m1:∀ a:Nat,a<18446744073709551616->∀ b:Nat,bits .xor .u64 (a:Int) ((a:Int)/((2 ^ b:Nat):Int))=((a ^^^ a/2 ^ b:Nat):Int):=fun a ha b=>by
  rw[<- Int.natCast_ediv,bits_xor_u64_nat _ _ ha (Nat.lt_of_le_of_lt (Nat.div_le_self _ _) ha)]
 have e1:=m1 x hx 30;rw[show((2 ^ 30:Nat):Int)=1073741824 from rfl]at e1;obtain⟨y,hy⟩:∃ y,y=((x ^^^ x/2 ^ 30)*13787848793156543929)%18446744073709551616:=⟨_,rfl⟩;have e2:IntKind.u64.wrap (((x ^^^ x/2 ^ 30:Nat):Int)*13787848793156543929)=(y:Int):=by
  rw[hy,<- Fm];simp
 have hyb:y<18446744073709551616:=by rw[hy];exact Nat.mod_lt _ (by decide)
 have e3:=m1 y hyb 27;rw[show((2 ^ 27:Nat):Int)=134217728 from rfl]at e3;obtain⟨z,hz⟩:∃ z,z=((y ^^^ y/2 ^ 27)*10723151780598845931)%18446744073709551616:=⟨_,rfl⟩;have e4:IntKind.u64.wrap (((y ^^^ y/2 ^ 27:Nat):Int)*10723151780598845931)=(z:Int):=by
  rw[hz,<- Fm];simp
 have hzb:z<18446744073709551616:=by rw[hz];exact Nat.mod_lt _ (by decide)
 have e5:=m1 z hzb 31;rw[show((2 ^ 31:Nat):Int)=2147483648 from rfl]at e5;have e6:Bu x=z ^^^ z/2 ^ 31:=by rw[hz,hy];rfl
 rw[e1,e2,e3,e4,e5,e6]
 rfl
theorem Qh9(h s:Nat)(hh:h<18446744073709551616)(hs:s<7):Calls prog 165 #[.int .u64 h,.int .i64 s] w fun r w'=>r = .returned (.bool (Xf h s))/\w=w':=by
 have HF:=hid (fun wx=>Tg (w:=wx) h s 1 hh (.inl rfl) (by omega));rw[show((1:Nat):Int)=1 from rfl]at HF;have hb:(((fld h s 1:Nat):Int)==1)=Xf h s:=by unfold Xf;rw[Bool.eq_iff_iff];simp;omega
 obtain⟨b,hub⟩:∃ b,Xf h s=b:=⟨_,rfl⟩;rw[hub]at hb ⊢;clear hub
 go_enter func165,ntmps165
 go_wp2_with fail
 (with_reducible refine(HF.out _).mono ?_)
 rintro e w' ⟨rfl,rfl⟩;go_wp2_with fail
 go_ret
 exact⟨rfl,rfl⟩
theorem Qfu(h s k:Nat)(hh:h<18446744073709551616)(hs:s<7)(hk:k<18446744073709551616) :
  Calls prog 209 #[.int .u64 h,.int .i64 s,.int .u64 k] w fun r w'=>r = .returned (.bool (Xf h s&&(fpN h s==Bu k%256)))/\w=w':=by
 have HU:=hid (fun wx=>Qh9 (w:=wx) h s hh hs);have HF:=hid (fun wx=>Tg (w:=wx) h (8+8*s) 8 hh (.inr (.inr rfl)) (by omega));have HM:=hid (fun wx=>Qia (w:=wx) k hk);have hmb:=Qob k;have HG:=hid (fun wx=>Tg (w:=wx) (Bu k) 0 8 hmb (.inr (.inr rfl)) (by omega));have hc:((8+8*s:Nat):Int)=8+8*(s:Int):=by omega
 rw[hc]at HF;rw[show((0:Nat):Int)=0 from rfl]at HG;rw[show((8:Nat):Int)=8 from rfl]at HF HG;have hfb:(((fld h (8+8*s) 8:Nat):Int)==((fld (Bu k) 0 8:Nat):Int))=(fpN h s==Bu k%256):=by
  have e:fld (Bu k) 0 8=Bu k%256:=by unfold fld;simp
  rw[e];unfold fpN;rw[Bool.eq_iff_iff];simp;omega
 generalize fld h (8+8*s) 8=f1 at *
 generalize fld (Bu k) 0 8=f2 at *
 generalize (fpN h s==Bu k%256)=fb at *
 generalize Xf h s=ub at *
 generalize Bu k=mk at *
 clear hc
 cases ub
 ·go_enter func209,ntmps209
  go_wp2_with fail
  (with_reducible refine(HU.out _).mono ?_)
  rintro e w' ⟨rfl,rfl⟩;go_wp2_with fail
  go_ret
  exact⟨rfl,rfl⟩
 ·go_enter func209,ntmps209
  go_wp2_with fail
  (with_reducible refine(HU.out _).mono ?_)
  rintro e w' ⟨rfl,rfl⟩;go_wp2_with fail
  (with_reducible refine(HF.out _).mono ?_)
  rintro e w' ⟨rfl,rfl⟩;go_wp2_with fail
  (with_reducible refine(HM.out _).mono ?_)
  rintro e w' ⟨rfl,rfl⟩;go_wp2_with fail
  (with_reducible refine(HG.out _).mono ?_)
  rintro e w' ⟨rfl,rfl⟩;go_wp2_with fail
  go_ret
  exact⟨rfl,rfl⟩
theorem Fu(h s k:Nat)(hh:h<18446744073709551616)(hs:s<7)(hk:k<18446744073709551616) :
  Calls prog 167 #[.int .u64 h,.int .i64 s,.int .u64 k] w fun r w'=>r = .returned (.int .u64 (Yy h s k:Nat))/\w=w':=by
 have h1:Qec h s 1 1<18446744073709551616:=Ck (n:=64) hh (by omega);have HF:=hid (fun wx=>Ml (w:=wx) h s 1 1 hh (by omega) (.inl rfl) (by omega));rw[show((1:Nat):Int)=1 from rfl]at HF;have HM:=hid (fun wx=>Qia (w:=wx) k hk);have hmb:=Qob k;have HG:=hid (fun wx=>Ml (w:=wx) (Qec h s 1 1) (8+8*s) 8 (Bu k) h1 hmb (.inr (.inr rfl)) (by omega));have hc:((8+8*s:Nat):Int)=8+8*(s:Int):=by omega
 rw[hc]at HG;rw[show((8:Nat):Int)=8 from rfl]at HG;have HMK:Hid (Qec (Qec h s 1 1) (8+8*s) 8 (Bu k)=Yy h s k):=rfl;rw[HMK.out]at HG
 generalize Qec h s 1 1=f1 at *
 generalize Yy h s k=f2 at *
 generalize Bu k=mk at *
 clear hc HMK
 go_enter func167,ntmps167
 go_wp2_with fail
 (with_reducible refine(HF.out _).mono ?_)
 rintro e w' ⟨rfl,rfl⟩;go_wp2_with fail
 (with_reducible refine(HM.out _).mono ?_)
 rintro e w' ⟨rfl,rfl⟩;go_wp2_with fail
 (with_reducible refine(HG.out _).mono ?_)
 rintro e w' ⟨rfl,rfl⟩;go_wp2_with fail
 go_ret
 exact⟨rfl,rfl⟩
theorem Zo(o:Nat)(ho:o<18446744073709551616):Calls prog 166 #[.int .u64 o] w fun r w'=>r = .returned (.int .u64 ((64*(o/64):Nat):Int))/\w=w':=by
 have HL:Hid (∀ wx,Calls prog 211 #[.int .u64 o] wx fun r w'=>r = .returned (.int .u64 ((o/64:Nat):Int))/\wx=w'):=fun wx=>by
  go_enter func211,ntmps211
  go_wp2_with fail
  go_ret
  exact⟨rfl,rfl⟩
 have hq:IntKind.u64.wrap (((o/64:Nat):Int)*64)=((64*(o/64):Nat):Int):=by
  rw[IntWalk.u64_in _ (by omega)];omega
 go_enter func166,ntmps166
 go_wp2_with fail
 (with_reducible refine(HL.out _).mono ?_)
 rintro e w' ⟨rfl,rfl⟩;go_wp2_with fail
 go_ret
 refine⟨?_,rfl⟩
 show Ending.returned (.int .u64 ((o:Int)/64*64))=_
 congr 2
 omega
end
end
end Go.Proofs.YtlhchkajjpefmaaGreatDoor
