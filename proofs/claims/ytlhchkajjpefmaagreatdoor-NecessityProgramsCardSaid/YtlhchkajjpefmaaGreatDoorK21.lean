/- Lemmas and walks, part 21: each theorem says what it proves; no condition beside its own. -/
import Derived.Test.YtlhchkajjpefmaaGreatDoorK20
set_option maxHeartbeats 16000000
set_option maxRecDepth 100000
namespace Go.Proofs.YtlhchkajjpefmaaGreatDoor
open Lib(hid)
open Go.RowKit Go.Proofs.Tryz
section
open Go.Maps
attribute [local go_sem ↓] Go.wp_at_zero Go.wp_at_succ
def rdW(a b:Int):List (Nat×Int) := [(2560,a),(2624,b)]
theorem Qa3(a b:Int):Js (rdW a b)=rdW a b:=by simp[Js,rdW]
theorem Qh0(a b:Int):Qn 704 (rdW a b) = [(704,2560),(712,a),(720,2624),(728,b)]:=by simp[Qn,rdW]
def Qvf(a b:Int)(C:Nat->Int)(i:Nat):Int:=Qu [(640,0)] (Qu (rdW a b) (Qu [(640,(Uu (rdW a b):Int))] (Qu (Qn 704 (rdW a b)) (C i) i) i) i) i
theorem Q2o(a b:Int):Zb 640 (rdW a b)=(Qe (Qn 704 (rdW a b))++Qe [(640,(Uu (rdW a b):Int))])++(Qe (rdW a b)++Qe [(640,0)]):=by unfold Zb Jn;rw[if_neg (by simp[rdW])]
section
variable{w:World}{v:DV}{own:Nat->Option Qp}{D:Dev}{g n x:Nat}{C F:Nat->Int}
theorem Ch(h:SCl D 0 n C x)(hn:64<=n)(a b:Int)(ha:0<=a/\a<18446744073709551616)(hb:0<=b/\b<18446744073709551616) :
  SCl (D.run 0 (Zb 640 (rdW a b))) 0 n (Qvf a b C) (x+(Zb 640 (rdW a b)).length):=by
 have hc:=Qex (W:=rdW a b) (by show 2<=96;omega);rw[Q2o,Dev.run_append,Dev.run_append,Dev.run_append];have h1:=h.stores (ws:=Qn 704 (rdW a b)) (by rw[Qh0];simp;omega) (by rw[Qh0];simp;omega);have h2:=h1.stores (ws := [(640,(Uu (rdW a b):Int))]) (by simp;omega) (by simp;omega);have h3:=h2.stores (ws:=rdW a b) (by simp[rdW];omega) (by simp[rdW];omega);have h4:=h3.stores (ws := [(640,0)]) (by simp;omega) (by simp);exact h4.mono (by simp only[List.length_append];omega)
theorem Q2m(a b:Int)(C:Nat->Int):Qvf a b C 320=a:=by simp[Qvf,Qu,rdW]
theorem Q2n(a b:Int)(C:Nat->Int):Qvf a b C 328=b:=by simp[Qvf,Qu,rdW]
theorem Qvg(a b:Int)(C:Nat->Int):Qvf a b C 80=0:=by simp[Qvf,Qu]
theorem Fa(a b:Int):Calls prog 98 #[.int .u64 a,.int .u64 b] w fun r w'=>r = .returned (.slice (some ⟨w.heap.size,0,none⟩) 2 2)/\Ql w' 2 (.slice (some ⟨w.heap.size,0,none⟩) 2 2) (rdW a b).length (Qv (rdW a b))/\Below w.heap.size w w':=by
 have R:=hid (Ql.new w #[.int .u64 2560,.int .u64 a,.int .u64 2624,.int .u64 b] 140 2 2 rfl);have B:=hid (Qa w (.cells #[.int .u64 2560,.int .u64 a,.int .u64 2624,.int .u64 b] 140))
 go_enter func98,ntmps98
 go_wp2_with fail
 go_ret
 exact⟨rfl,R.out,B.out⟩
theorem Wt(h:IsDev w v own D)(hof:D.off=false)(he:D.err 0=0)(hn:64<=D.n)(a b:Int) :
  Calls prog 104 #[(.iface 40 (.pointer (some ⟨v.tb 0,0,none⟩))),.int .u64 a,.int .u64 b] w fun r w'=>r = .returned (.bool (decide (D.cur 320=a)&&decide (D.cur 328=b)))/\w=w':=by
 have H1:=load_ok h (j:=0) (by omega) 2560 hof (by omega) (by omega);have H2:=load_ok h (j:=0) (by omega) 2624 hof (by omega) (by omega);have H3:=err_any h (j:=0) (by omega);rw[show((2560:Nat):Int)=2560 from rfl,show 2560/8=320 from rfl]at H1;rw[show((2624:Nat):Int)=2624 from rfl,show 2624/8=328 from rfl]at H2;rw[he]at H3;have H1:=hid H1;have H2:=hid H2;have H3:=hid H3
 have hm1:=meth_Load ⟨v.tb 0,0,none⟩;have hm2:=meth_Err ⟨v.tb 0,0,none⟩
 generalize D.cur 320=x at *
 generalize D.cur 328=y at *
 clear h hof he hn
 by_cases hx:x=a
 ·subst hx
  by_cases hy:y=b
  ·subst hy
   go_enter func104,ntmps104
   go_wp2_with fail
   (with_reducible refine H1.out.mono ?_)
   rintro r w1 ⟨rfl,rfl⟩;go_wp2_with fail
   (with_reducible refine H2.out.mono ?_)
   rintro r w1 ⟨rfl,rfl⟩;go_wp2_with fail
   (with_reducible refine H3.out.mono ?_)
   rintro r w1 ⟨rfl,rfl⟩;go_wp2_with fail
   go_ret
   simp
  ·go_enter func104,ntmps104
   go_wp2_with fail
   (with_reducible refine H1.out.mono ?_)
   rintro r w1 ⟨rfl,rfl⟩;go_wp2_with fail
   (with_reducible refine H2.out.mono ?_)
   rintro r w1 ⟨rfl,rfl⟩;go_wp2_with fail
   go_ret
   simp[hy]
 ·go_enter func104,ntmps104
  go_wp2_with fail
  (with_reducible refine H1.out.mono ?_)
  rintro r w1 ⟨rfl,rfl⟩;go_wp2_with fail
  go_ret
  simp[hx]
theorem Qoj(hN:Nib w)(h:IsDev w v own D)(hS:SCl D 0 n C x)(h0:C 80=0)(hn:64<=n)(hx:x+100000<4294967296)(a b:Int)(ha:0<=a/\a<18446744073709551616)(hb:0<=b/\b<18446744073709551616) :
  Calls prog 96 #[(.iface 40 (.pointer (some ⟨v.tb 0,0,none⟩))),.int .u64 a,.int .u64 b] w fun r w'=>r = .returned (.int .i64 0)/\Qr v own w (D.run 0 (Zb 640 (rdW a b))) w':=by
 have hdn:D.n=n:=hS.grp.on.n;have hex:=hS.exec;have hcu:=hS.cur;have HO:Hid (Calls prog 65 #[(.iface 40 (.pointer (some ⟨v.tb 0,0,none⟩))),.int .i64 10,.int .i64 26] w (Ve w v own D 0 640 1664)):=hid (Sz h (j:=0) (by omega) 10 26 (by omega) (by omega));have HWR:=hid (fun wx:World=>Fa (w:=wx) a b);have H2:=Ch hS hn a b ha hb;have HC:=hid (fun(wx wy:World) (lb:Nat) (sv:Value) (hl:Ut wx v own D lb 0 640 1664) (hnx:Nib wx) (hr:Ql wx 2 sv (rdW a b).length (Qv (rdW a b)))=>(Qf7 hl sv (rdW a b) (by omega) (by simp[rdW]) (by
  have:=Rq hnx hl hS.grp.on.off hS.grp.on.err hS.vb sv (rdW a b) hr (by simp[rdW]) (by simp[rdW];omega) (by rw[hdn];simp[rdW,Zg];omega)
  rwa [Qa3]at this)).mono fun r w' hp=>(show r = .returned (.int .i64 0)/\Qr v own wx (D.run 0 (Zb 640 (rdW a b))) w' by
   rcases hp with ⟨k1,_⟩ | ⟨_,k1,_⟩ | ⟨_,_,k2,k3⟩
   ·exact absurd k1 (by simp[rdW])
   ·exact absurd (by rw[hcu];exact h0) k1
   ·rw[H2.grp.on.err]at k2;exact⟨k2,k3⟩))
 unfold Ve at HO;have HNB:=hid hN;clear hN h hS h0 hn hx ha hb hdn hex hcu H2
 go_enter func96,ntmps96
 go_wp2_with fail
 (with_reducible refine HO.out.mono ?_)
 rintro r w1 ⟨rfl,l1,b1⟩;have L1:=hid l1;have B1:=hid b1
 clear l1 b1 HO;go_wp2_with fail
 (with_reducible refine(HWR.out _).mono ?_)
 rintro r w2 ⟨rfl,r2,b2⟩;have B2:=hid (B1.out.trans (b2.mono B1.out.size));have HC2:=hid (HC.out w2 w2 _ _ (L1.out.below b2) (HNB.out.below B2.out) r2);clear r2 b2 HC;go_wp2_with fail
 (with_reducible refine HC2.out.mono ?_)
 rintro r w3 ⟨rfl,p3⟩;have P3:=hid (p3.past B2.out);clear p3
 go_wp2_with fail
 go_ret
 exact⟨rfl,P3.out⟩
def Ms(w:World)(g:Nat):Prop:=Blk w g #[.func (.func 96) #[] #[]] 178
theorem Ms.below{w':World}(h:Ms w g)(hb:Below w.heap.size w w'):Ms w' g:=Blk.below h hb
theorem Ms.cell(h:Ms w g):w.cell? ⟨g,0,none⟩=some (.func (.func 96) #[] #[]):=Blk.cell h rfl
theorem Ms.above{w':World}{B:Nat}(h:Ms w g)(hb:Below B w w')(h0:g<B):Ms w' g:=(hb.block g h0).trans h
def Gf:List (Nat×Nat×Int):=Qe [(640,0)]++Zb 640 (rdW 1 2)
theorem Qdn(h:SCl D 0 n C x)(hn:64<=n):SCl (D.run 0 (Qe [(640,0)])) 0 n (fun i=>Qu [(640,0)] (C i) i) (x+(Qe [(640,0)]).length):=
 h.stores (ws := [(640,0)]) (by simp;omega) (by simp)
theorem Qf9(a b:Int):(Zb 640 (rdW a b)).length<=20:=by have:=Hi 640 (rdW a b);simpa [rdW]using this
theorem Hj{B:Nat}{w0:World}(hN:Nib w)(P:Pst B w0 v D own w)(hS:SCl D 0 n C x)(h0:C 80=0)(hn:64<=n)(hx:x<=100000)(a b:Int)(ha:0<=a/\a<18446744073709551616)(hb:0<=b/\b<18446744073709551616) :
  Calls prog 96 #[(.iface 40 (.pointer (some ⟨v.tb 0,0,none⟩))),.int .u64 a,.int .u64 b] w fun r w'=>r = .returned (.int .i64 0)/\∃ own',Pst B w0 v (D.run 0 (Zb 640 (rdW a b))) own' w':=
 (Qoj hN P.dev hS h0 hn (by omega) a b ha hb).mono fun r w' hp=>⟨hp.1,P.post hp.2⟩
theorem Qok{B:Nat}(hN:Nib w)(hg:Ms w g)(P:Pst B w v D own w)(h0:0<B)(h1:g<B)(hS:SCl D 0 n C x)(hn:64<=n)(hx:x<=1000) :
  Calls prog 99 #[(.iface 40 (.pointer (some ⟨v.tb 0,0,none⟩))),.pointer (some ⟨g,0,none⟩)] w fun r w'=>r = .returned (.int .i64 0)/\∃ own',Pst B w v (D.run 0 Gf) own' w':=by
 have hdn:D.n=n:=hS.grp.on.n;have hex:=hS.exec;have hS1:=Qdn hS hn;have hlen:=Zx [(640,(0:Int))];have H1:Hid (Calls prog 100 #[(.iface 40 (.pointer (some ⟨v.tb 0,0,none⟩))),.int .i64 10,.int .i64 26] w fun r w'=>r = .returned (.int .i64 0)/\Qr v own w (D.run 0 (Qe [(640,0)])) w'):=hid ((Qf8 P.dev (j:=0) (by omega) 10 26 (by omega) (by omega) hS.grp.on.err (by omega)).mono fun r w' hp=>⟨by rw[hp.1];show Ending.returned (.int .i64 ((D.run 0 (Qe [(640,0)])).err 0))=_;rw[hS1.grp.on.err],hp.2⟩);have H2:Hid (∀ w1,Qr v own w (D.run 0 (Qe [(640,0)])) w1->Ms w1 g/\Calls prog 96 #[(.iface 40 (.pointer (some ⟨v.tb 0,0,none⟩))),.int .u64 1,.int .u64 2] w1 fun r w'=>r = .returned (.int .i64 0)/\∃ own',Pst B w v (D.run 0 Gf) own' w'):=hid (fun w1 hp=>by
  obtain⟨own1,P1⟩:=P.post hp;refine⟨hg.above P1.bel h1,?_⟩
  have:=Hj (hN.above P1.bel h0) P1 hS1 rfl hn (by simp at hlen;omega) 1 2 (by omega) (by omega);unfold Gf
  rwa [Dev.run_append])
 have c0:=hg.cell;clear hN hg P hS hS1 hdn hex hlen
 go_enter func99,ntmps99
 go_wp2_with fail
 (with_reducible refine H1.out.mono ?_)
 rintro r w1 ⟨rfl,p1⟩;obtain⟨g1,h2⟩:=H2.out w1 p1;have H3:=hid h2;have c1:=g1.cell;clear p1 H2 h2 g1;go_wp2_with fail
 (with_reducible refine H3.out.mono ?_)
 rintro r w2 ⟨rfl,p2⟩;have P2:=hid p2;clear p2
 go_wp2_with fail
 go_ret
 exact⟨rfl,P2.out⟩
theorem Qol(hN:Nib w)(h:IsDev w v own D)(hS:SCl D 0 n C x)(h0:C 80=0)(hn:64<=n) :
  Calls prog 101 #[(.iface 40 (.pointer (some ⟨v.tb 0,0,none⟩)))] w fun r w'=>∃ sv,r = .returned (.tuple #[sv,.int .i64 0])/\Acc w w.heap.size w' 73 3 sv (Zb 640 (rdW 3 4)).length (Qd (Zb 640 (rdW 3 4))):=by
 have hdn:D.n=n:=hS.grp.on.n;have hcu:=hS.cur;have HO:Hid (Calls prog 65 #[(.iface 40 (.pointer (some ⟨v.tb 0,0,none⟩))),.int .i64 10,.int .i64 26] w (Ve w v own D 0 640 1664)):=hid (Sz h (j:=0) (by omega) 10 26 (by omega) (by omega));have HWR:=hid (fun wx:World=>Fa (w:=wx) 3 4);have HC:Hid (∀ (wx:World) (lb:Nat) (sv:Value),Ut wx v own D lb 0 640 1664->Nib wx->Ql wx 2 sv (rdW 3 4).length (Qv (rdW 3 4))->Calls prog 66 #[.pointer (some ⟨lb,0,none⟩),sv] wx fun r w'=>∃ sv,r = .returned (.tuple #[sv,.int .i64 0])/\Acc wx wx.heap.size w' 73 3 sv (Zb 640 (rdW 3 4)).length (Qd (Zb 640 (rdW 3 4)))):=hid (fun wx lb sv hl hnx hr=>by
  have:=Rq hnx hl hS.grp.on.off hS.grp.on.err hS.vb sv (rdW 3 4) hr (by simp[rdW]) (by simp[rdW]) (by rw[hdn];simp[rdW,Zg];omega);rw[Qa3]at this;refine this.mono fun r w' hp => ?_
  rcases hp with ⟨k1,_⟩ | ⟨_,k1,_⟩ | ⟨_,_,k2⟩
  ·exact absurd k1 (by simp[rdW])
  ·exact absurd (by rw[hcu];exact h0) k1
  ·exact k2)
 unfold Ve at HO;have HNB:=hid hN;clear hN h hS h0 hn hdn hcu
 go_enter func101,ntmps101
 go_wp2_with fail
 (with_reducible refine HO.out.mono ?_)
 rintro r w1 ⟨rfl,l1,b1⟩;have L1:=hid l1;have B1:=hid b1
 clear l1 b1 HO;go_wp2_with fail
 (with_reducible refine(HWR.out _).mono ?_)
 rintro r w2 ⟨rfl,r2,b2⟩;have B2:=hid (B1.out.trans (b2.mono B1.out.size));have HC2:=hid (HC.out w2 _ _ (L1.out.below b2) (HNB.out.below B2.out) r2);clear r2 b2 HC;go_wp2_with fail
 (with_reducible refine HC2.out.mono ?_)
 rintro r w3 ⟨sv,rfl,a3⟩;have A3:=hid (a3.deeper B2.out);clear a3
 go_wp2_with fail
 go_ret2
 exact⟨_,rfl,A3.out⟩
def Q7e(C:Nat->Int)(W:List (Nat×Int))(i:Nat):Int:=Qu [(640,0)] (Qu W (C i) i) i
def rdL(n:Nat)(F:Nat->Int):Nat×List (Nat×Int):=Jj (64*n) 640 1664 F
def rdF(n:Nat)(F:Nat->Int):Nat->Int:=if(rdL n F).1=2 then Q7e F (rdL n F).2 else F
def gRd(n:Nat)(F:Nat->Int)(e:Bool):Bool:=
 (!e || decide ((rdL n F).1=1))&&(decide ((rdL n F).1≠3)&&((decide (rdF n F 320=3)&&decide (rdF n F 328=4)) || (!e&&(decide (rdF n F 320=1)&&decide (rdF n F 328=2)))))
theorem Qtz{size off len:Nat}{C:Nat->Int}(hC:∀ i,0<=C i/\C i<18446744073709551616):∀ e∈(Jj size off len C).2,e.1<18446744073709551616/\0<=e.2/\e.2<18446744073709551616:=by
 unfold Jj;simp only;intro e he
 split at he
 ·simp at he
 ·split at he
  ·simp at he
  ·split at he
   ·simp at he
   ·split at he
    ·obtain⟨i,_,rfl⟩:=List.mem_map.1 he
     exact⟨by have:=hC (off/8+8+2*i);simp only;omega,hC _⟩
    ·simp at he
theorem Qyg{n:Nat}{F:Nat->Int}(hF:∀ i,0<=F i/\F i<18446744073709551616)(h:(rdL n F).1=1):F 80=0:=by
 unfold rdL Jj at h;simp only at h
 split at h
 ·rename_i h1
  have:=hF 80;rw[show 640/8=80 from rfl]at h1;omega
 ·split at h
  ·simp at h
  ·split at h
   ·simp at h
   ·split at h <;> simp at h
theorem Q2q(h:SCl D 0 n F x)(hn:64<=n)(h2:(rdL n F).1=2):SCl (D.run 0 (Jn 640 (rdL n F).2)) 0 n (Q7e F (rdL n F).2) (x+300):=by
 have hc:=Rp (64*n) 640 1664 F;have hbd:=Qtz (size:=64*n) (off:=640) (len:=1664) h.bd;unfold rdL at *
 rcases hc with k | k | ⟨_,k1,k2⟩
 ·rw[k]at h2;cases h2
 ·rw[k]at h2;cases h2
 generalize (Jj (64*n) 640 1664 F).2=W at *
 have hal:∀ e∈W,e.1%8=0/\e.1<64*n/\(e.1<640\/640+1664<=e.1):=fun e he=>by
  have:=k2 e he;unfold Zg at this;simpa using this
 have a1:=h.stores (ws:=W) (fun e he=>⟨(hal e he).1,(hal e he).2.1⟩) (fun e he=>(hbd e he).2);have a2:=a1.stores (ws := [(640,0)]) (by simp;omega) (by simp);have l1:=Zx W;have l2:=Zx [(640,(0:Int))];simp only[List.length_cons,List.length_nil]at l2;unfold Jn;rw[Dev.run_append];exact a2.mono (by omega)
def Qwa(B n x:Nat)(F:Nat->Int)(w0:World)(v:DV)(r:Ending)(w':World):Prop:=
 ∃ k:Int,r = .returned (.tuple #[.int .i64 k,.int .i64 0])/\∃ (D':Dev) (own':Nat->Option Qp),SCl D' 0 n (rdF n F) (x+300)/\rdF n F 80=0/\Pst B w0 v D' own' w'
theorem Qkg{B lb:Nat}{w0:World}(hN:Nib w)(P:Pst B w0 v D own w)(hl:Ut w v own D lb 0 640 1664)(hS:SCl D 0 n F x)(hn:64<=n)(hx:x<=1000)(h3:(rdL n F).1≠3) :
  Calls prog 103 #[.pointer (some ⟨lb,0,none⟩)] w (Qwa B n x F w0 v):=by
 refine(Ma hN hl hS.grp.on.off hS.grp.on.err hS.vb (by have:=hS.exec;omega)).mono fun r w' hp => ?_
 rw[hS.grp.on.n,hS.cur]at hp
 rcases hp with ⟨k1,rfl,b⟩ | ⟨k1,_⟩ | ⟨k1,d,hd⟩
 ·have e:rdF n F=F:=by unfold rdF rdL;rw[k1];rfl
  exact⟨_,rfl,D,own,by rw[e];exact hS.mono (by omega),by rw[e];exact Qyg hS.bd k1,P.next b⟩
 ·exact absurd k1 h3
 ·have e:rdF n F=Q7e F (rdL n F).2:=by unfold rdF;rw[if_pos (show(rdL n F).1=2 from k1)]
  have c:=Q2q hS hn k1;obtain⟨own',P'⟩:=P.post d
  rcases hd with ⟨_,rfl⟩ | ⟨he,_⟩
  ·exact⟨_,rfl,_,own',by rw[e];exact c,by rw[e];rfl,P'⟩
  ·exact absurd c.grp.on.err he
theorem Dp{lb:Nat}(hN:Nib w)(hl:Ut w v own D lb 0 640 1664)(hS:SCl D 0 n F x)(hx:x<=1000)(h3:(rdL n F).1=3) :
  Calls prog 103 #[.pointer (some ⟨lb,0,none⟩)] w fun r w'=>r = .returned (.tuple #[.int .i64 0,.int .i64 10])/\Below w.heap.size w w':=by
 refine(Ma hN hl hS.grp.on.off hS.grp.on.err hS.vb (by have:=hS.exec;omega)).mono fun r w' hp => ?_
 rw[hS.grp.on.n,hS.cur]at hp
 rcases hp with ⟨k1,_⟩ | ⟨_,rfl,b⟩ | ⟨k1,_⟩
 ·exact absurd (k1.symm.trans h3) (by decide)
 ·exact⟨rfl,b⟩
 ·exact absurd (k1.symm.trans h3) (by decide)
theorem Qom{B:Nat}(hN:Nib w)(hg:Ms w g)(P:Pst B w v D own w)(h0:0<B)(h1:g<B)(hS:SCl D 0 n F x)(hn:64<=n)(hx:x<=1000)(e:Bool) :
  Calls prog 102 #[(.iface 40 (.pointer (some ⟨v.tb 0,0,none⟩))),.bool e,.pointer (some ⟨g,0,none⟩)] w fun r w'=>r = .returned (.bool (gRd n F e))/\Below B w w':=by
 have hdn:D.n=n:=hS.grp.on.n;have hcu:=hS.cur;have HLK:Hid (Calls prog 16 #[(.iface 40 (.pointer (some ⟨v.tb 0,0,none⟩))),.int .i64 10,.int .i64 26] w fun r w'=>∃ sv,r = .returned (.tuple #[.int .u8 ((rdL n F).1:Nat),sv])/\Below w.heap.size w w'):=hid ((Fz hN P.dev (j:=0) (by omega) 10 26 (by omega) (by omega) hS.grp.on.off hS.vb).mono fun r w' hp=>by
  rw[hdn,hcu]at hp;obtain⟨sv,h1,h2⟩:=hp;exact⟨sv,h1,h2.bel⟩)
 have HO:Hid (∀ wx,Below w.heap.size w wx->Calls prog 65 #[(.iface 40 (.pointer (some ⟨v.tb 0,0,none⟩))),.int .i64 10,.int .i64 26] wx (Ve wx v own D 0 640 1664)):=hid (fun(wx:World) (hb:Below w.heap.size w wx)=>Sz (P.dev.below hb) (j:=0) (by omega) 10 26 (by omega) (by omega));unfold Ve at HO;have HRG:Hid ((rdL n F).1≠3->∀ (wx:World) (lb:Nat),Below w.heap.size w wx->Ut wx v own D lb 0 640 1664->Calls prog 103 #[.pointer (some ⟨lb,0,none⟩)] wx (Qwa B n x F w v)):=hid (fun h3 wx lb hb hl=>Qkg (hN.below hb) (P.next hb) hl hS hn hx h3);have HRB:Hid ((rdL n F).1=3->∀ (wx:World) (lb:Nat),Below w.heap.size w wx->Ut wx v own D lb 0 640 1664->Calls prog 103 #[.pointer (some ⟨lb,0,none⟩)] wx fun r w'=>r = .returned (.tuple #[.int .i64 0,.int .i64 10])/\Below wx.heap.size wx w'):=hid (fun h3 wx lb hb hl=>Dp (hN.below hb) hl hS hx h3);have HW:=hid (fun(wx:World) (D':Dev) (own':Nat->Option Qp) (hp:Pst B w v D' own' wx) (hs:SCl D' 0 n (rdF n F) (x+300)) (a b:Int)=>(show Calls prog 104 #[(.iface 40 (.pointer (some ⟨v.tb 0,0,none⟩))),.int .u64 a,.int .u64 b] wx fun r w'=>r = .returned (.bool (decide (rdF n F 320=a)&&decide (rdF n F 328=b)))/\wx=w' by
  have:=Wt hp.dev hs.grp.on.off hs.grp.on.err (by rw[hs.grp.on.n];exact hn) a b
  rwa [hs.cur]at this))
 have HC:=hid (fun(wx:World) (D':Dev) (own':Nat->Option Qp) (hp:Pst B w v D' own' wx) (hs:SCl D' 0 n (rdF n F) (x+300)) (hz:rdF n F 80=0)=>(show Ms wx g/\Calls prog 96 #[(.iface 40 (.pointer (some ⟨v.tb 0,0,none⟩))),.int .u64 5,.int .u64 6] wx fun r w'=>r = .returned (.int .i64 0)/\∃ own' D2,Pst B w v D2 own' w'/\Calls prog 104 #[(.iface 40 (.pointer (some ⟨v.tb 0,0,none⟩))),.int .u64 5,.int .u64 6] w' fun r w2=>r = .returned (.bool true)/\w'=w2 from
  ⟨hg.above hp.bel h1,(Hj (hN.above hp.bel h0) hp hs hz hn (by omega) 5 6 (by omega) (by omega)).mono fun r w' ⟨h1,own2,h2⟩=>⟨h1,own2,_,h2,by
   have hs2:=Ch hs hn 5 6 (by omega) (by omega);have:=Wt h2.dev hs2.grp.on.off hs2.grp.on.err (by rw[hs2.grp.on.n];exact hn) 5 6;rw[hs2.cur,Q2m,Q2n]at this;simpa using this⟩⟩))
 have hcs:=Rp (64*n) 640 1664 F;have hcl:(rdL n F).1=1\/(rdL n F).1=2\/(rdL n F).1=3:=by
  unfold rdL
  rcases hcs with h | h | ⟨h,_⟩
  ·exact .inl h
  ·exact .inr (.inr h)
  ·exact .inr (.inl h)
 have HB0:Hid (B<=w.heap.size):=P.size;unfold gRd;unfold Qwa at HRG;clear hN hg P h0 h1 hS hn hx hdn hcu hcs
 generalize rdF n F=f at *
 generalize rdL n F=L0 at *
 obtain⟨a,L⟩:=L0;simp only at HLK HRG HRB hcl ⊢;have hbs:(e=true/\(a=2\/a=3))\/(e=false/\a=3)\/((e=false/\a=1)\/(e=false/\a=2)\/(e=true/\a=1)):=by
  cases e
  ·rcases hcl with h | h | h <;> simp[h]
  ·rcases hcl with h | h | h <;> simp[h]
 clear hcl
 rcases hbs with ⟨rfl,rfl | rfl⟩ | ⟨rfl,rfl⟩ | hgood
 iterate 2
  ·go_enter func102,ntmps102
   go_wp2_with fail
   (with_reducible refine HLK.out.mono ?_)
   rintro r w1 ⟨sv,rfl,a1⟩;have B1:=hid (a1.mono HB0.out);clear a1;go_wp2_with fail
   go_ret
   exact⟨rfl,B1.out⟩
 ·have HR1:=hid (HRB.out rfl)
  clear HRB HRG
  go_enter func102,ntmps102
  go_wp2_with fail
  (with_reducible refine HLK.out.mono ?_)
  rintro r w1 ⟨sv,rfl,a1⟩;have B1:=hid a1;have HO1:=hid (HO.out w1 a1);clear a1 HO;go_wp2_with fail
  (with_reducible refine HO1.out.mono ?_)
  rintro r w2 ⟨rfl,l2,b2⟩;have B2:=hid (B1.out.trans (b2.mono B1.out.size));have HR2:=hid (HR1.out w2 _ B2.out l2);clear l2 b2 HO1 HR1;go_wp2_with fail
  (with_reducible refine HR2.out.mono ?_)
  rintro r w3 ⟨rfl,b3⟩;have B3:=hid ((B2.out.trans (b3.mono B2.out.size)).mono HB0.out);clear b3;go_wp2_with fail
  go_ret
  exact⟨rfl,B3.out⟩
 ·obtain⟨b34,hb34⟩:∃ b,(decide (f 320=3)&&decide (f 328=4))=b:=⟨_,rfl⟩
  obtain⟨b12,hb12⟩:∃ b,(decide (f 320=1)&&decide (f 328=2))=b:=⟨_,rfl⟩;have HW1:=hid (fun wx D' own' hp hs=>HW.out wx D' own' hp hs 3 4);have HW2:=hid (fun wx D' own' hp hs=>HW.out wx D' own' hp hs 1 2);rw[hb34]at HW1;rw[hb12]at HW2;rw[hb34,hb12];clear HW hb34 hb12 HRB;have ha:a≠3:=by rcases hgood with ⟨_,h⟩ | ⟨_,h⟩ | ⟨_,h⟩ <;> omega
  have HR1:=hid (HRG.out ha);clear HRG
  rcases hgood with ⟨rfl,rfl⟩ | ⟨rfl,rfl⟩ | ⟨rfl,rfl⟩
  all_goals
   cases b34
   all_goals
    clear ha
    go_enter func102,ntmps102
    go_wp2_with fail
    (with_reducible refine HLK.out.mono ?_)
    rintro r w1 ⟨sv,rfl,a1⟩;have B1:=hid a1;have HO1:=hid (HO.out w1 a1);clear a1 HO;go_wp2_with fail
    (with_reducible refine HO1.out.mono ?_)
    rintro r w2 ⟨rfl,l2,b2⟩;have B2:=hid (B1.out.trans (b2.mono B1.out.size));have HR2:=hid (HR1.out w2 _ B2.out l2);clear l2 b2 HO1 HR1;go_wp2_with fail
    (with_reducible refine HR2.out.mono ?_)
    rintro r w3 ⟨k,rfl,D3,own3,s3,z3,p3⟩;have S3:=hid s3;have P3:=hid p3
    have HW3:=hid (HW1.out w3 D3 own3 p3 s3);have HW4:=hid (HW2.out w3 D3 own3 p3 s3);obtain⟨hgb,hcm⟩:=HC.out w3 D3 own3 p3 s3 z3;have HC3:=hid hcm;have c0:=hgb.cell;clear s3 z3 p3 HR2 HW1 HW2 HC hcm hgb;go_wp2_with fail
    (with_reducible refine HW3.out.mono ?_)
    rintro r w4 ⟨rfl,rfl⟩;go_wp2_with fail
    first
     | (go_ret
        exact⟨rfl,P3.out.bel⟩)
     | ((with_reducible refine HC3.out.mono ?_)
        rintro r w5 ⟨rfl,own5,D5,p5,h5⟩;have P5:=hid p5;have H5:=hid h5
        clear p5 h5;go_wp2_with fail
        (with_reducible refine H5.out.mono ?_)
        rintro r w6 ⟨rfl,rfl⟩;go_wp2_with fail
        go_ret
        exact⟨by simp,P5.out.bel⟩)
     | ((with_reducible refine HW4.out.mono ?_)
        rintro r w5 ⟨rfl,rfl⟩
        cases b12
        ·go_wp2_with fail
         go_ret
         exact⟨rfl,P3.out.bel⟩
        ·go_wp2_with fail
         (with_reducible refine HC3.out.mono ?_)
         rintro r w5 ⟨rfl,own5,D5,p5,h5⟩;have P5:=hid p5;have H5:=hid h5
         clear p5 h5;go_wp2_with fail
         (with_reducible refine H5.out.mono ?_)
         rintro r w6 ⟨rfl,rfl⟩;go_wp2_with fail
         go_ret
         exact⟨by simp,P5.out.bel⟩)
end
end

section
structure LogAt(w:World)(v:DV)(own:Nat->Option Qp)(D:Dev)(lb j off n:Nat):Prop where
 dev:IsDev w v own D
 blk:Blk w lb #[.iface 40 (.pointer (some ⟨v.tb j,0,none⟩)),.int .u64 off,.int .i64 n] 211
 ob:own lb=none
 hj:j<8
 n2:2<=n
 o64:off%64=0
 fit:off+64*n<=64*D.n
def Qw(size off n o:Nat):Bool:=decide (o%8=0/\o<size/\(o<off\/off+64*n<=o))
section
variable{w:World}{v:DV}{own:Nat->Option Qp}{D:Dev}{lb j off n:Nat}
theorem LogAt.below{w':World}(h:LogAt w v own D lb j off n)(hb:Below w.heap.size w w'):LogAt w' v own D lb j off n:=⟨h.dev.below hb,h.blk.below hb,h.ob,h.hj,h.n2,h.o64,h.fit⟩
theorem LogAt.alloc(h:LogAt w v own D lb j off n)(o:Obj):LogAt (w.alloc o) v own D lb j off n:=h.below (Qa w o)
theorem LogAt.drew(h:LogAt w v own D lb j off n):LogAt w.drew v own D lb j off n:=h.below ((Below.refl _ _).drew)
theorem LogAt.c0(h:LogAt w v own D lb j off n):w.cell? ⟨lb,0,none⟩=some (.iface 40 (.pointer (some ⟨v.tb j,0,none⟩))):=h.blk.cell rfl
theorem LogAt.c1(h:LogAt w v own D lb j off n):w.cell? ⟨lb,1,none⟩=some (.int .u64 off):=h.blk.cell rfl
theorem LogAt.c2(h:LogAt w v own D lb j off n):w.cell? ⟨lb,2,none⟩=some (.int .i64 n):=h.blk.cell rfl
theorem LogAt.bd(h:LogAt w v own D lb j off n):off+64*n<=262144/\D.n<=4096:=by have:=h.dev.wf.le;have:=h.fit;omega
theorem Yb(h:LogAt w v own D lb j off n):Calls prog 135 #[.pointer (some ⟨lb,0,none⟩)] w fun r w'=>r = .returned (.bool false)/\w=w':=by
 have c0:=h.c0;clear h
 go_enter func135,ntmps135
 go_wp2
 go_ret
 exact⟨rfl,rfl⟩
theorem Mi(h:LogAt w v own D lb j off n):Calls prog 136 #[.pointer (some ⟨lb,0,none⟩)] w fun r w'=>r = .returned (.int .i64 ((4*(n-1):Nat):Int))/\w=w':=by
 have c2:=h.c2;have hb:=h.bd;have h2:=h.n2
 have HN:=hid (Yb h);have e:(4:Int)*((n:Int)-1)=((4*(n-1):Nat):Int):=by omega
 have E:=hid e;clear h e
 go_enter func136,ntmps136
 go_wp2_with fail
 (with_reducible refine HN.out.mono ?_)
 rintro e w' ⟨rfl,rfl⟩;go_wp2_with fail
 go_ret
 exact⟨Xm E.out,rfl⟩
theorem Jp(h:LogAt w v own D lb j off n)(i:Nat)(hi:i<=100000):Calls prog 137 #[.pointer (some ⟨lb,0,none⟩),.int .i64 i] w fun r w'=>r = .returned (.int .u64 ((off+64+16*i:Nat):Int))/\w=w':=by
 have c1:=h.c1;have hb:=h.bd;clear h
 go_enter func137,ntmps137
 go_wp2_with fail
 go_ret
 exact⟨Xm (by omega),rfl⟩
theorem Yl(h:LogAt w v own D lb j off n)(o:Nat)(ho:o<18446744073709551616) :
  Calls prog 157 #[.pointer (some ⟨lb,0,none⟩),.int .u64 o] w fun r w'=>r = .returned (.bool (Qw (64*D.n) off n o))/\Below w.heap.size w w':=by
 have c0:=h.c0;have c1:=h.c1;have c2:=h.c2
 have hb:=h.bd;have hm1:=meth_Size ⟨v.tb j,0,none⟩;have HT:=hid (thrSize_any h.dev h.hj);have hres:∀ b,b=Qw (64*D.n) off n o->Ending.returned (.bool b) = .returned (.bool (Qw (64*D.n) off n o)):=fun b e=>by rw[e]
 have HR:=hid hres;clear hres
 clear h
 by_cases h8:o%8=0
 ·have b8:(((o:Int)%8) != 0)=false:=by simp;omega
  by_cases hs:o<64*D.n
  ·have hs':¬ ((D.n:Int)*64<=(o:Int)):=by omega
   by_cases hl:o<off
   ·have hl':(o:Int)<off:=by omega
    go_enter func157,ntmps157
    go_wp2_with fail
    (with_reducible refine HT.out.mono ?_)
    rintro e w' ⟨rfl,rfl⟩;go_wp2_with fail
    go_quiet (fail)
    go_wp2_with fail
    go_ret
    exact⟨HR.out _ (by unfold Qw;simp[h8,hs,hl]),(Qt.drewN w _).below⟩
   ·have hl':¬ (o:Int)<off:=by omega
    have hl2:(off:Int)<=o:=by omega
    go_enter func157,ntmps157
    go_wp2_with fail
    (with_reducible refine HT.out.mono ?_)
    rintro e w' ⟨rfl,rfl⟩;go_wp2_with fail
    go_quiet (fail)
    go_wp2_with fail
    go_ret
    exact⟨HR.out _ (by unfold Qw;rw[decide_eq_decide];omega),(Qt.drewN w _).below⟩
  ·have hs':(D.n:Int)*64<=(o:Int):=by omega
   go_enter func157,ntmps157
   go_wp2_with fail
   (with_reducible refine HT.out.mono ?_)
   rintro e w' ⟨rfl,rfl⟩;go_wp2_with fail
   go_ret
   exact⟨HR.out _ (by unfold Qw;simp[hs]),Below.refl _ _⟩
 ·have b8:(((o:Int)%8) != 0)=true:=by simp;omega
  go_enter func157,ntmps157
  go_wp2_with fail
  go_ret
  exact⟨HR.out _ (by unfold Qw;simp[h8]),Below.refl _ _⟩
end
end

section
def Qip(C:Nat->Int)(off n:Nat):Nat:=if((4*(n-1):Nat):Int)<C (off/8)then 0 else(C (off/8)).toNat
def Vs(C:Nat->Int)(off k:Nat):List (Nat×Int):=(List.range k).map fun i=>((C (off/8+8+2*i)).toNat,C (off/8+9+2*i))
def Qk(C:Nat->Int)(off n:Nat):List (Nat×Int):=Vs C off (Qip C off n)
theorem Ef(C:Nat->Int)(off k:Nat):Vs C off (k+1)=Vs C off k ++ [((C (off/8+8+2*k)).toNat,C (off/8+9+2*k))]:=by simp[Vs,List.range_succ]
theorem Uf(C:Nat->Int)(off k:Nat):(Vs C off k).length=k:=by simp[Vs]
theorem Ar(C:Nat->Int)(off n:Nat):Qip C off n<=4*(n-1):=by
 unfold Qip;split <;> omega
theorem Nq(a:Addr)(w:World):(nilAhead 461 40 (.pointer (some a)) "Load").run prog w = .ok (some false) w:=by kernel_rfl
section
variable{w:World}{v:DV}{own:Nat->Option Qp}{D:Dev}{lb j off n:Nat}
theorem Yq(h:LogAt w v own D lb j off n)(k:Nat)(hk:k<=100000):Calls prog 159 #[.pointer (some ⟨lb,0,none⟩),.int .i64 k] w
  fun r w'=>∃ ov,r = .returned ov/\Acc w w.heap.size w' 73 3 ov (Qe [(off,(k:Int))]).length (Qd (Qe [(off,(k:Int))])):=by
 have c1:=h.c1;have hb:=h.bd;have HS:=hid (Xd (w:=w.alloc (.cells #[.int .u64 off,.int .u64 k] 140)) (.slice (some ⟨w.heap.size,0,none⟩) 1 1) [(off,(k:Int))] (by exact Ql.new w _ _ 2 1 rfl) (by simp) (fun e he=>by simp at he;subst he;simp only;omega));clear h
 go_enter func159,ntmps159
 go_wp2_with fail
 (with_reducible refine HS.out.mono ?_)
 rintro e w1 ⟨ov,rfl,a1⟩;have A1:=hid (a1.deeper (Qa _ _));clear a1 HS
 go_wp2_with fail
 go_ret
 exact⟨_,rfl,A1.out⟩
theorem Bp(h:LogAt w v own D lb j off n)(ho:D.off=false)(hvb:D.VB)(o:Nat)(h8:o%8=0)(hl:o<64*D.n) :
  Calls prog 290 #[.pointer (some ⟨v.tb j,0,none⟩),.int .u64 o] w fun r w'=>r = .returned (.int .u64 (((D.cur (o/8)).toNat:Nat):Int))/\w=w':=by
 have:=load_ok h.dev h.hj o ho h8 hl;rw[Int.toNat_of_nonneg (hvb.cur (o/8)).1];exact this
theorem Te(h:LogAt w v own D lb j off n)(ho:D.off=false)(hvb:D.VB):Calls prog 50 #[.pointer (some ⟨lb,0,none⟩)] w
  fun r w'=>∃ sv,r = .returned sv/\Acc w w.heap.size w' 140 2 sv (Qk D.cur off n).length (Qv (Qk D.cur off n)):=by
 have hb:=h.bd;have h2:=h.n2;have hfit:=h.fit;have h64:=h.o64
 have c0:=h.c0;have c1:=h.c1
 have hm1:=meth_Load ⟨v.tb j,0,none⟩;have hn1:=Nq ⟨v.tb j,0,none⟩
 have H:=hid h;have HV:=hid hvb;have HN:=hid (Yb h);have HL:=hid (fun wx (hx:LogAt wx v own D lb j off n)=>Bp hx ho hvb off (by omega) (by omega));obtain⟨k0,hi0,hz0,hz1,hz2⟩:=info_parts Xe;have I2:=hid (And.intro hi0 (And.intro hz0 (And.intro hz1 hz2)));clear hi0 hz0 hz1 hz2
 have hcb:=hvb.cur (off/8);clear h hvb;obtain⟨c,hc⟩:∃ c,(D.cur (off/8)).toNat=c:=⟨_,rfl⟩;have hcI:D.cur (off/8)=(c:Int):=by omega
 have hc64:c<18446744073709551616:=by omega
 have HC:Hid (Qip D.cur off n=if 4*(n-1)<c then 0 else c):=by
  show Qip D.cur off n=_
  unfold Qip;rw[hcI]
  by_cases e:4*(n-1)<c
  ·rw[if_pos (by omega),if_pos e]
  ·rw[if_neg (by omega),if_neg e];omega
 rw[hc]at HL;clear hcb hcI hc
 go_enter func50,ntmps50
 go_wp2_with fail
 (with_reducible refine HN.out.mono ?_)
 rintro e w' ⟨rfl,rfl⟩
 go_upto_region 4 with fail
 go_cut [4]from 14 to 22 (fun x wx=>x = .int .u64 (c:Int)/\Below w.heap.size w wx)
 case first=>
  go_region_with (go_at_call 290;refine(HL.out _ ?hd).mono ?_;(case hd=>first | exact(H.out.alloc _).drew | exact H.out.drew | exact H.out.alloc _ | exact H.out);rintro e w' ⟨rfl,rfl⟩)
  all_goals go_wp2_with fail
  all_goals go_meet
  all_goals exact⟨rfl,(Below.refl _ _).drew⟩
 case rest=>
  obtain⟨rfl,hbc⟩:=hcut;have LC:=hid (H.out.below hbc);have BC:=hid hbc
  have HCap:=hid (Mi LC.out);clear hbc HL HN c0 c1;have c0:=LC.out.c0;have c1:=LC.out.c1
  by_cases hgt:4*(n-1)<c
  ·have hgt':((4*(n-1):Nat):Int)<(c:Int):=by omega
   have HQ:Hid (Qk D.cur off n = []):=by show Qk D.cur off n = [];unfold Qk;rw[HC.out,if_pos hgt];rfl
   clear HC;go_wp2_with fail
   (with_reducible refine HCap.out.mono ?_)
   rintro e w' ⟨rfl,rfl⟩;go_wp2_with fail
   go_loopw [5,30] (fun s y wr=>s = .slice none 0 0/\y = .int .i64 0/\Below w.heap.size w wr) (fun _ _ _=>0)
   case atStart=>exact⟨rfl,rfl,BC.out⟩
   case round=>
    obtain⟨rfl,rfl,hb2⟩:=hrel;go_wp2_with fail
    go_ret
    exact⟨_,rfl,by rw[HQ.out];exact Acc.nil w _ _ _ _ hb2 hb2.size⟩
  ·have hgt':¬ ((4*(n-1):Nat):Int)<(c:Int):=by omega
   have HQ:Hid (Qk D.cur off n=Vs D.cur off c):=by show Qk D.cur off n=_;unfold Qk;rw[HC.out,if_neg hgt]
   clear HC;go_wp2_with fail
   (with_reducible refine HCap.out.mono ?_)
   rintro e w' ⟨rfl,rfl⟩;go_wp2_with fail
   go_loopw [5,30] (fun s y wr=>∃ k:Nat,k<=c/\y = .int .i64 k/\Acc w w.heap.size wr 140 2 s k (Qv (Vs D.cur off k))) (fun _ y _=>c-(intOf y).toNat)
   case atStart=>exact⟨0,by omega,rfl,Acc.nil w _ _ _ _ BC.out BC.out.size⟩
   case round=>
    obtain⟨k,hk,rfl,ha⟩:=hrel;obtain⟨sa,sc,hsv⟩:=ha.slice;subst hsv;have A:=hid ha;clear ha
    have LK:=hid (H.out.below A.out.bel)
    by_cases hlt:k<c
    ·have hlt':(k:Int)<c:=by omega
     have d0:=LK.out.c0;have HE:=hid (Jp LK.out k (by omega));have hq:off+64+16*k+8<64*D.n:=by omega
     have HL1:=hid (Bp LK.out ho HV.out (off+64+16*k) (by omega) (by omega));have HL2:=hid (Bp LK.out ho HV.out (off+64+16*k+8) (by omega) (by omega));have hv1:=(HV.out.cur ((off+64+16*k+8)/8));have e1:(off+64+16*k)/8=off/8+8+2*k:=by omega
     have e2:(off+64+16*k+8)/8=off/8+9+2*k:=by omega
     rw[e1]at HL1;rw[e2]at HL2 hv1
     have HT:Hid (Vs D.cur off (k+1)=Vs D.cur off k ++ [((D.cur (off/8+8+2*k)).toNat,((D.cur (off/8+9+2*k)).toNat:Int))]):=by
      show Vs D.cur off (k+1)=_
      rw[Ef,Int.toNat_of_nonneg hv1.1]
     generalize (D.cur (off/8+8+2*k)).toNat=ea at *
     generalize (D.cur (off/8+9+2*k)).toNat=ev at *
     obtain⟨q,hqq⟩:∃ q,off+64+16*k=q:=⟨_,rfl⟩;rw[hqq]at HE HL1 HL2 hq;have e3:((q+8:Nat):Int)=(q:Int)+8:=by omega
     rw[e3]at HL2;clear e1 e2 e3 hqq hv1;go_wp2_with fail
     (with_reducible refine HE.out.mono ?_)
     rintro e w' ⟨rfl,rfl⟩;go_wp2_with fail
     (with_reducible refine HL1.out.mono ?_)
     rintro e w' ⟨rfl,rfl⟩;go_wp2_with fail
     (with_reducible refine HL2.out.mono ?_)
     rintro e w' ⟨rfl,rfl⟩;go_wp2_with (at_builtin;refine Qc _ rfl _ _ 52 rfl 140 k0 _ 2 16 underlying52 I2.out.1 I2.out.2.1 I2.out.2.2.1 I2.out.2.2.2 rfl (by decide) _ k (Qv (Vs D.cur off k)) rfl (by exact A.out.own.alloc _) _ 1 (Qv [(ea,(ev:Int))]) rfl (by exact Ql.newAt _ _ _ 2 1 _ (by simp) rfl) (Xp _) (by unfold maxLen;omega) (by omega) ?_)
     intro v1 w3 o1 g1 b1 n1;have A1:=hid (A.out.next (Qa wr _) o1 g1 b1 (by omega));clear o1 g1 b1 n1;go_wp2_with fail
     go_roundw
     case rel=>exact⟨k+1,by omega,by go_num,A1.out.congr rfl (by rw[HT.out,Za])⟩
     case measure=>simp[intOf];omega
    ·obtain rfl:k=c:=by omega
     go_wp2_with fail
     go_ret
     exact⟨_,rfl,by rw[HQ.out];exact A.out.congr (Uf _ _ _).symm rfl⟩
def Tu(w:World)(e:Int)(r:Ending)(w':World):Prop:=r = .returned (.tuple #[.slice none 0 0,.int .i64 e])/\Below w.heap.size w w'
theorem Vq(h:LogAt w v own D lb j off n)(ho:D.off=false)(he:D.err j=0)(hvb:D.VB):Calls prog 158 #[.pointer (some ⟨lb,0,none⟩)] w
  fun r w'=>∃ sv,r = .returned (.tuple #[sv,.int .i64 0])/\Acc w w.heap.size w' 140 2 sv (Qk D.cur off n).length (Qv (Qk D.cur off n)):=by
 have c0:=h.c0;have hm1:=meth_Err ⟨v.tb j,0,none⟩;have HN:=hid (Yb h);have HS:=hid (Te h ho hvb);have hE:=fun wx (hx:LogAt wx v own D lb j off n)=>err_any hx.dev hx.hj
 rw[he]at hE;have HE:=hid hE;have H:=hid h;clear h hE
 go_enter func158,ntmps158
 go_wp2_with fail
 (with_reducible refine HN.out.mono ?_)
 rintro e w' ⟨rfl,rfl⟩;go_wp2_with fail
 (with_reducible refine(HE.out _ H.out).mono ?_)
 rintro e w' ⟨rfl,rfl⟩;go_wp2_with fail
 (with_reducible refine HS.out.mono ?_)
 rintro e w1 ⟨sv,rfl,a1⟩;obtain⟨sa,sc,hsv⟩:=a1.slice;subst hsv;have A1:=hid a1;have L1:=hid (H.out.below a1.bel);clear a1;have c0:=L1.out.c0;go_wp2_with fail
 (with_reducible refine(HE.out _ L1.out).mono ?_)
 rintro e w' ⟨rfl,rfl⟩;go_wp2_with fail
 go_ret2
 exact⟨_,rfl,A1.out⟩
end
end

section
open Go.Maps
def Xi(C:Nat->Int)(K:List Nat)(F:List (Nat×Int))(o:Nat):List (Nat×Int):=if o∈K++F.map (·.1)then F else F ++ [(o,C (o/8))]
def Vv(C:Nat->Int)(K:List Nat)(offs:List Nat):List (Nat×Int):=offs.foldl (Xi C K) []
theorem Ba(C:Nat->Int)(K offs:List Nat)(o:Nat):Vv C K (offs ++ [o])=Xi C K (Vv C K offs) o:=by simp[Vv,List.foldl_append]
theorem Qab(C:Nat->Int)(K:List Nat)(F:List (Nat×Int))(o:Nat):(Xi C K F o).length<=F.length+1:=by unfold Xi;split <;> simp
theorem Qi7(C:Nat->Int)(K offs:List Nat):∀ F:List (Nat×Int),(offs.foldl (Xi C K) F).length<=F.length+offs.length:=by
 induction offs with
 | nil=>intro F;simp
 | cons o offs ih=>intro F;have h1:=ih (Xi C K F o);have h2:=Qab C K F o;simp only[List.foldl_cons,List.length_cons];omega
theorem Ek(C:Nat->Int)(K offs:List Nat):(Vv C K offs).length<=offs.length:=by have:=Qi7 C K offs [];simpa [Vv]using this
def Qs(base:Nat):List (Nat×Int)->List (Nat×Int)
 | [] => []
 | e::l=>(base,(e.1:Int))::(base+8,e.2)::Qs (base+16) l
theorem Pf(l:List (Nat×Int))(e:Nat×Int):∀ b,Qs b (l ++ [e])=Qs b l ++ [(b+16*l.length,(e.1:Int)),(b+16*l.length+8,e.2)]:=by
 induction l with
 | nil=>intro b;simp[Qs]
 | cons x l ih=>intro b;simp only[List.cons_append,Qs,ih,List.length_cons];rw[show b+16+16*l.length=b+16*(l.length+1)by omega]
theorem Rk(l:List (Nat×Int)):∀ b,(Qs b l).length=2*l.length:=by
 induction l with
 | nil=>intro b;rfl
 | cons x l ih=>intro b;simp only[Qs,List.length_cons,ih];omega
theorem Nt(l:List (Nat×Int)):∀ b,∀ e∈Qs b l,b<=e.1/\e.1<b+16*l.length:=by
 induction l with
 | nil=>intro b e he;simp[Qs]at he
 | cons x l ih=>
  intro b e he;simp only[Qs,List.mem_cons]at he;simp only[List.length_cons]
  rcases he with rfl | rfl | h
  ·simp only;omega
  ·simp only;omega
  ·have:=ih _ e h;omega
def Jf(off s:Nat)(F:List (Nat×Int)):List (Nat×Nat×Int):=if F = []then []else Qe (Qs (off+64+16*s) F)++Qe [(off,((s+F.length:Nat):Int))]
def Qqz(N:DataW Unit)(K:List Nat):Prop:=∀ x:Nat,N.atKey (.int .u64 (x:Int)) (.lit (.bool false)) = .lit (.bool (decide (x∈K)))
theorem Qqz.nil:Qqz (.map []) []:=fun x=>by simp[DataW.atKey]
theorem Qqz.put{N:DataW Unit}{K:List Nat}(h:Qqz N K)(hN:IsMap N)(o:Nat):Qqz (N.put (.int .u64 (o:Int)) (.lit (.bool true))) (K ++ [o]):=fun x=>by
 by_cases e:x=o
 ·subst e
  rw[atKey_put_same hN (show WideAt.IsKeyLit (.int .u64 (x:Int))from trivial)];simp
 ·rw[atKey_put_other (by intro h;injection h with _ h;exact e (by omega)),h x]
  simp[e]
theorem Su{P:Program}{e:TypeId}(he:P.underlying e=some .bool){v:Value}{z:DataW Unit×List MemPlace}(h:plainElem P e v=some z):∃ b,v = .bool b/\z=(.lit (.bool b),[]):=by
 unfold plainElem at h;rw[he]at h
 cases v <;> simp at h
 exact⟨_,rfl,h.symm⟩
theorem Bm:Keyed prog 31:=int_keyed underlying31
theorem Q7z(w:World):(zeroValue 4).run prog w = .ok (.bool false) w:=by kernel_rfl
section
variable{w:World}
theorem Qhn{b m:Nat}{N:DataW Unit}{K:List Nat}(h:w.ownsMap prog 31 (plainElem prog 4) b m N)(hK:Qqz N K)(o:Nat)(ho:o<18446744073709551616) :
  (Instr.lookup 246 (.map (some b)) (.int .u64 (o:Int)) false).run prog w = .ok (.bool (decide (o∈K))) w:=by
 obtain⟨v,ps,hrun,hv⟩:=h.lookup Bm underlying246 (Q7z w) (plainElem_bool underlying4 false) (show keyOf prog 31 (.int .u64 (o:Int))=some (.int .u64 (o:Int))from keyOf_int_mk underlying31 (WalkArith.wf_u64 (by omega)));obtain⟨x,rfl,hx⟩:=Su underlying4 hv;rw[hK o]at hx;simp only[Prod.mk.injEq,DataW.lit.injEq,Lit.bool.injEq]at hx;rw[hrun,hx.1]
structure Cz(w wr:World)(ov:Value)(S:List (Nat×Int))(fv:Value)(F:List (Nat×Int))(mb:Nat)(K:List Nat):Prop where
 o:Acc w w.heap.size wr 140 2 ov S.length (Qv S)
 f:Acc w w.heap.size wr 140 2 fv F.length (Qv F)
 m:∃ (N:DataW Unit) (m:Nat),m<=K.length/\wr.ownsMap prog 31 (plainElem prog 4) mb m N/\Qqz N K
 new:w.heap.size<=mb
 no:ov.ownBlock≠some mb
 nf:fv.ownBlock≠some mb
 ne:∀ g,ov.ownBlock=some g->fv.ownBlock≠some g
variable{wr wz w1:World}{ov fv:Value}{S F:List (Nat×Int)}{mb:Nat}{K:List Nat}
theorem Cz.keep(h:Cz w wr ov S fv F mb K)(hz:Below wr.heap.size wr wz):Cz w wz ov S fv F mb K:=by
 obtain⟨N,m,h1,h2,h3⟩:=h.m;exact⟨h.o.keep hz,h.f.keep hz,⟨N,m,h1,h2.kept (row:=none) ⟨hz.os,hz.tape,hz.output,hz.size,fun k hk _=>hz.block k hk⟩ (by simp),h3⟩,h.new,h.no,h.nf,h.ne⟩
theorem Acc.besideU{B:Nat}{e:TypeId}{s n:Nat}{v:Value}{xs:List Value}(h:Acc w B wr e s v n xs)(hg:wr.grownBy w1 (some mb))(hB:B<=mb)(hv:v.ownBlock≠some mb):Acc w B w1 e s v n xs:=
 ⟨h.own.kept (fun k hk=>hg.block k (h.own.lt k hk) (fun e=>hv (by rw[hk];exact e))),h.new,⟨hg.os.trans h.bel.os,hg.tape.trans h.bel.tape,hg.output.trans h.bel.output,Nat.le_trans h.bel.size hg.size,
  fun k hk=>(hg.block k (Nat.lt_of_lt_of_le hk h.lt) (fun e=>by have:=Option.some.inj e;omega)).trans (h.bel.block k hk)⟩,Nat.le_trans h.lt hg.size⟩
theorem Cz.put(h:Cz w wr ov S fv F mb K)(hz:wr.grownBy w1 (some mb)){N:DataW Unit}{m o:Nat}(hm:m<=K.length)(hN:IsMap N)(hS:Qqz N K)(h1:w1.ownsMap prog 31 (plainElem prog 4) mb (m+1) (N.put (.int .u64 (o:Int)) (.lit (.bool true)))) :
  Cz w w1 ov S fv F mb (K ++ [o]):=
 ⟨h.o.besideU hz h.new h.no,h.f.besideU hz h.new h.nf,⟨_,m+1,by simp;omega,h1,hS.put hN o⟩,h.new,h.no,h.nf,h.ne⟩
theorem Cz.app{F':List (Nat×Int)}{fv':Value}{q k:Nat}(h:Cz w wr ov S fv F mb K)(hz:Below wr.heap.size wr wz)(o1:Qj w1 140 2 fv' (F.length+k) (Qv F++Qv F'))(hk:F'.length=k)(g1:wz.grownBy w1 fv.ownBlock)
  (b1:Zc fv'=Zc fv\/Zc fv'=some ⟨q,0,none⟩) (hq:wr.heap.size<=q):Cz w w1 ov S fv' (F++F') mb K:=by
 have A1:=h.f.next hz o1 g1 b1 hq;obtain⟨N,m,h1,h2,h3⟩:=h.m;have hlt:=h2.lt;have kz:wz.ownsMap prog 31 (plainElem prog 4) mb m N:=h2.kept (row:=none) ⟨hz.os,hz.tape,hz.output,hz.size,fun k hk _=>hz.block k hk⟩ (by simp);have nb:∀ g,fv'.ownBlock=some g->fv.ownBlock=some g\/g=q:=fun g hg=>by
  rcases b1 with b1 | b1
  ·rw[Qh,b1,<- Qh]at hg;exact .inl hg
  ·rw[Qh,b1]at hg;cases hg;exact .inr rfl
 refine⟨⟨h.o.own.kept (fun g hg => ?_),h.o.new,A1.bel,A1.lt⟩,A1.congr (by simp[hk]) (by rw[Za]),⟨N,m,h1,kz.kept g1 (fun e=>h.nf e.symm),h3⟩,h.new,h.no,fun e => ?_,fun g hg hg2 => ?_⟩
 ·have hlo:=h.o.own.lt g hg
  rw[g1.block g (Nat.lt_of_lt_of_le hlo hz.size) (fun e=>h.ne g hg e.symm)];exact hz.block g hlo
 ·rcases nb _ e with h' | h'
  ·exact h.nf h'
  ·omega
 ·rcases nb _ hg2 with h' | h'
  ·exact h.ne g hg h'
  ·have:=h.o.own.lt g hg;omega
end
end

section
open Go.Maps
section
variable{w:World}{v:DV}{own:Nat->Option Qp}{D:Dev}{lb j off n:Nat}
def Am(w:World)(off n:Nat)(S F:List (Nat×Int))(r:Ending)(w':World):Prop:=
 (4*(n-1)<S.length+F.length/\Tu w 4 r w') \/
 (¬ 4*(n-1)<S.length+F.length/\∃ ov,r = .returned (.tuple #[ov,.int .i64 0])/\Acc w w.heap.size w' 73 3 ov (Jf off S.length F).length (Qd (Jf off S.length F)))
end
end
end Go.Proofs.YtlhchkajjpefmaaGreatDoor
