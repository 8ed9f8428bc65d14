/- Lemmas and walks, part 17: each theorem says what it proves; no condition beside its own. -/
import Derived.Test.YtlhchkajjpefmaaGreatDoorK16
set_option maxHeartbeats 16000000
set_option maxRecDepth 100000
namespace Go.Proofs.YtlhchkajjpefmaaGreatDoor
open Lib(hid)
open Go.RowKit Go.Proofs.Tryz
section
def Ce(p:Nat):Nat:=p/4294967296%65536
def Wv(p:Nat):Nat:=p/281474976710656%256
def Ua(p:Nat):Bool:=decide (p/72057594037927936=0/\Qo p≠0/\Ce p≠0/\Wv p≠0/\Wv p<=127)
def Wa(p size:Nat):Bool:=Ua p&&decide (Qo p<size)
section
variable{w:World}
theorem Qsj(p:Nat)(_hp:p<18446744073709551616):Calls prog 249 #[.int .u64 p] w fun r w'=>r = .returned (.int .u16 (Ce p))/\w=w':=by
 go_enter func249,ntmps249
 go_wp2
 go_ret
 refine⟨Xm ?_,rfl⟩
 unfold Ce
 first | omega | (rw[IntKind.wrap_u16];omega)
theorem Qns(p:Nat)(_hp:p<18446744073709551616):Calls prog 250 #[.int .u64 p] w fun r w'=>r = .returned (.int .u8 (Wv p))/\w=w':=by
 go_enter func250,ntmps250
 go_wp2
 go_ret
 refine⟨Xm ?_,rfl⟩
 unfold Wv
 first | omega | (rw[IntKind.wrap_u8'];omega)
theorem Qfe(p:Nat)(hp:p<18446744073709551616):Calls prog 228 #[.int .u64 p] w fun r w'=>r = .returned (.bool (Ua p))/\w=w':=by
 have HO:=hid (Vb (w:=w) p hp);have HG:=hid (Qsj (w:=w) p hp);have HK:=hid (Qns (w:=w) p hp)
 obtain⟨t,ht⟩:∃ t,t=p/72057594037927936:=⟨_,rfl⟩;have hsh:((p:Int)/72057594037927936)=(t:Int):=by omega
 have key:∀ b:Bool,(b=true↔(t=0/\Qo p≠0/\Ce p≠0/\Wv p≠0/\Wv p<=127))->b=Ua p:=by
  intro b hb;unfold Ua;rw[<- ht,Bool.eq_iff_iff,hb,decide_eq_true_iff]
 have KEY:=hid key;clear key ht
 generalize Qo p=o at *
 generalize Ce p=g at *
 generalize Wv p=k at *
 by_cases h1:t=0
 ·have b1:((t:Int)==0)=true:=by simp;omega
  by_cases h2:o=0
  ·have b2:((o:Int) != 0)=false:=by simp;omega
   go_enter func228,ntmps228
   go_wp2_with (first | (go_at_call 214;(with_reducible refine HO.out.mono ?_);rintro e w' ⟨rfl,rfl⟩))
   go_ret
   exact⟨Qx (KEY.out _ (by simp[h2])),rfl⟩
  ·have b2:((o:Int) != 0)=true:=by simp;omega
   by_cases h3:g=0
   ·have b3:((g:Int) != 0)=false:=by simp;omega
    go_enter func228,ntmps228
    go_wp2_with (first | (go_at_call 214;(with_reducible refine HO.out.mono ?_);rintro e w' ⟨rfl,rfl⟩) | (go_at_call 249;(with_reducible refine HG.out.mono ?_);rintro e w' ⟨rfl,rfl⟩))
    go_ret
    exact⟨Qx (KEY.out _ (by simp[h3])),rfl⟩
   ·have b3:((g:Int) != 0)=true:=by simp;omega
    by_cases h4:k=0
    ·have b4:((k:Int) != 0)=false:=by simp;omega
     go_enter func228,ntmps228
     go_wp2_with (first | (go_at_call 214;(with_reducible refine HO.out.mono ?_);rintro e w' ⟨rfl,rfl⟩) | (go_at_call 249;(with_reducible refine HG.out.mono ?_);rintro e w' ⟨rfl,rfl⟩) | (go_at_call 250;(with_reducible refine HK.out.mono ?_);rintro e w' ⟨rfl,rfl⟩))
     go_ret
     exact⟨Qx (KEY.out _ (by simp[h4])),rfl⟩
    ·have b4:((k:Int) != 0)=true:=by simp;omega
     go_enter func228,ntmps228
     go_wp2_with (first | (go_at_call 214;(with_reducible refine HO.out.mono ?_);rintro e w' ⟨rfl,rfl⟩) | (go_at_call 249;(with_reducible refine HG.out.mono ?_);rintro e w' ⟨rfl,rfl⟩) | (go_at_call 250;(with_reducible refine HK.out.mono ?_);rintro e w' ⟨rfl,rfl⟩))
     go_ret
     exact⟨Qx (KEY.out _ (by simp[h1,h2,h3,h4];omega)),rfl⟩
 ·have b1:((t:Int)==0)=false:=by simp;omega
  go_enter func228,ntmps228
  go_wp2_with fail
  go_ret
  exact⟨Qx (KEY.out _ (by simp[h1])),rfl⟩
theorem Ww(p size:Nat)(hp:p<18446744073709551616):Calls prog 205 #[.int .u64 p,.int .u64 size] w fun r w'=>r = .returned (.bool (Wa p size))/\w=w':=by
 have HO:=hid (Vb (w:=w) p hp);have HF:=hid (Qfe (w:=w) p hp)
 have Hv:Hid (Wa p size=(Ua p&&decide (Qo p<size))):=rfl
 generalize Ua p=b at *
 generalize Qo p=o at *
 cases b
 ·go_enter func205,ntmps205
  go_wp2_with (first | (go_at_call 228;(with_reducible refine HF.out.mono ?_);rintro e w' ⟨rfl,rfl⟩))
  go_ret
  exact⟨Qx (by rw[Hv.out];rfl),rfl⟩
 ·go_enter func205,ntmps205
  go_wp2_with (first | (go_at_call 228;(with_reducible refine HF.out.mono ?_);rintro e w' ⟨rfl,rfl⟩) | (go_at_call 214;(with_reducible refine HO.out.mono ?_);rintro e w' ⟨rfl,rfl⟩))
  go_ret
  exact⟨Qx (by rw[Hv.out];rfl),rfl⟩
def Tj(W:Nat->Int)(slots:List Nat)(i:Nat):Int:=W (4+slots.getD i 0)
def Qzc(W:Nat->Int)(slots:List Nat)(n:Nat):Prop:=∀ i,0<i->i<n->Tj W slots (i-1)<Tj W slots i
def Jq(W:Nat->Int)(slots:List Nat)(size:Nat):Prop:=
 Qzc W slots slots.length/\(W 3=0/\W 2=0\/W 3=1/\(0<slots.length->Tj W slots (slots.length-1)<W 2))/\(W 1=0\/Wa (W 1).toNat size=true)
def Qq5(w:World)(p:Prop)(r:Ending)(w':World):Prop:=∃ b:Bool,r = .returned (.bool b)/\(b=true↔p)/\Qt w w'
theorem Qnr{cb:Nat}{W:Nat->Int}{slots:List Nat}{ch:Nat}(h:Xy w cb W slots ch)(i:Nat)(hi:i<slots.length) :
  Calls prog 195 #[.pointer (some ⟨cb,0,none⟩),.int .i64 i] w fun r w'=>r = .returned (.int .u64 (Tj W slots i))/\Qt w w':=by
 obtain⟨s,hs⟩:∃ s,slots[i]? = some s:=⟨_,List.getElem?_eq_getElem hi⟩;have:=Qai h i s hs;unfold Tj;simp only[List.getD,hs,Option.getD_some];exact this
theorem Qk6{cb:Nat}{W:Nat->Int}{slots:List Nat}{ch:Nat}(h:Xy w cb W slots ch)(size:Nat)(hW:∀ i,i<28->0<=W i/\W i<18446744073709551616) :
  Calls prog 216 #[.pointer (some ⟨cb,0,none⟩),.int .u64 size] w (Qq5 w (Jq W slots size)):=by
 obtain⟨sv,c28,hrd⟩:=h.sl;have hlen:=h.len;obtain⟨_,a,c,rfl,hc,ha⟩:=hrd;obtain⟨n,hN⟩:∃ n,n=slots.length:=⟨_,rfl⟩;have HN:=hid hN;rw[<- hN]at c28 hc hlen;clear hN;have c1:=h.words 1 (by omega);have c2:=h.words 2 (by omega);have c3:=h.words 3 (by omega)
 have H:=hid h;have HW:=hid hW;have C28:=hid c28;clear h ha hW
 go_enter func216,ntmps216
 go_wp2_with fail
 go_loopw [13] (fun x wr=>∃ i:Nat,i<=n/\x = .int .i64 i/\Qzc W slots i/\Qt w wr) (fun x _=>n-(intOf x).toNat)
 case atStart=>exact⟨0,Nat.zero_le _,rfl,fun i _ hi=>absurd hi (Nat.not_lt_zero _),Qt.refl _⟩
 case round=>
  obtain⟨i,hi,rfl,hasc,hq⟩:=hrel;have HA:=hid hasc;have HQ:=hid hq;clear hasc hq c1 c2 c3 c28
  have HC:=hid (H.out.qt HQ.out)
  by_cases hlt:i<n
  ·have b1:(i:Int)<n:=by omega
   cases i with
   | zero=>
    rw[show((0:Nat):Int)=0 from rfl];go_wp2_with fail
    go_roundw
    case rel=>exact⟨1,by omega,by go_num,fun j hj hj1=>by omega,HQ.out⟩
    case measure=>simp[intOf];omega
   | succ m=>
    have hK1:=Qnr HC.out (m+1) (by rw[<- HN.out];exact hlt);rw[show((m+1:Nat):Int)=(m:Int)+1 from by omega]at hK1;have HK1:=hid hK1;clear hK1
    have HF:Hid (Qzc W slots (m+1+1)↔Tj W slots m<Tj W slots (m+1)):=by
     show Qzc W slots (m+1+1)↔_
     constructor
     ·intro h;have:=h (m+1) (by omega) (by omega);rw[Nat.add_sub_cancel]at this;omega
     ·intro h j hj hj1
      rcases Nat.lt_succ_iff_lt_or_eq.1 hj1 with h' | h'
      ·exact HA.out j hj h'
      ·rw[h',Nat.add_sub_cancel];omega
    go_wp2_with fail
    (with_reducible refine HK1.out.mono ?_)
    rintro e w1 ⟨rfl,q1⟩;have HK2:=hid (Qnr (HC.out.qt q1) m (by rw[<- HN.out];omega));have Q1:=hid q1;clear q1
    go_wp2_with fail
    (with_reducible refine HK2.out.mono ?_)
    rintro e w2 ⟨rfl,q2⟩;have Q2:=hid ((HQ.out.trans Q1.out).trans q2);clear q2
    by_cases hk:Tj W slots (m+1)<=Tj W slots m
    ·have Hn:Hid (¬ Jq W slots size):=fun h=>absurd (HF.out.1 (fun j hj hj1=>h.1 j hj (by rw[<- HN.out];omega))) (by omega)
     go_wp2_with fail
     go_ret
     exact⟨false,rfl,by simp;exact Hn.out,Q2.out⟩
    ·have Hn:=hid (HF.out.2 (by omega))
     go_wp2_with fail
     go_roundw
     case rel=>exact⟨m+1+1,by omega,by go_num,Hn.out,Q2.out⟩
     case measure=>simp[intOf];omega
  ·obtain rfl:i=n:=by omega
   rw[HN.out]at HA;have c28:wr.cell? ⟨cb,28,none⟩=some (.slice a i c):=by obtain⟨q,rfl⟩:=HQ.out;exact C28.out
   have c1:=HC.out.words 1 (by omega);have c2:=HC.out.words 2 (by omega);have c3:=HC.out.words 3 (by omega)
   clear hlt
   by_cases h30:W 3=0
   ·have e30:(W 3==0)=true:=by simp[h30]
    by_cases h20:W 2=0
    ·have e20:(W 2 != 0)=false:=by simp[h20]
     have Hm:Hid (W 3=0/\W 2=0\/W 3=1/\(0<slots.length->Tj W slots (slots.length-1)<W 2)):=.inl ⟨h30,h20⟩;clear h30 h20
     by_cases h1:W 1=0
     ·have e1:(W 1==0)=true:=by simp[h1]
      have Hv:Hid (Jq W slots size):=⟨HA.out,Hm.out,.inl h1⟩;clear h1;go_wp2_with fail
      go_ret
      exact⟨true,rfl,by simp;exact Hv.out,HQ.out⟩
     ·have e1:(W 1==0)=false:=by simp[h1]
      have Hv:Hid (Wa (W 1).toNat size=true↔Jq W slots size):=⟨fun h=>⟨HA.out,Hm.out,.inr h⟩,fun h=>h.2.2.resolve_left h1⟩;clear h1;go_wp2_with fail
      have hc:=Ww (w:=wr) (W 1).toNat size (by have:=HW.out 1 (by omega);omega);rw[show(((W 1).toNat:Nat):Int)=W 1 from by have:=HW.out 1 (by omega);omega]at hc
      (with_reducible refine hc.mono ?_)
      rintro e w9 ⟨rfl,rfl⟩;clear hc;go_wp2_with fail
      go_ret
      exact⟨_,rfl,Hv.out,HQ.out⟩
    ·have e20:(W 2 != 0)=true:=by simp[h20]
     have Hn:Hid (¬ Jq W slots size):=fun h=>by rcases h.2.1 with h' | h' <;> omega
     clear h30 h20;go_wp2_with fail
     go_ret
     exact⟨false,rfl,by simp;exact Hn.out,HQ.out⟩
   ·have e30:(W 3==0)=false:=by simp[h30]
    by_cases h31:W 3=1
    ·have e31:(W 3==1)=true:=by simp[h31]
     by_cases hn0:i=0
     ·have Hm:Hid (W 3=0/\W 2=0\/W 3=1/\(0<slots.length->Tj W slots (slots.length-1)<W 2)):=.inr ⟨h31,fun h=>by rw[<- HN.out]at h;omega⟩
      have hd:decide ((0:Int)<i)=false:=by rw[decide_eq_false_iff_not];omega
      have hd2:decide (0<i)=false:=by rw[decide_eq_false_iff_not];omega
      clear h30 h31 hn0;go_wp2_with fail
      go_quiet (fail)
      obtain⟨w2,hw2⟩:∃ w2,w2=wr.drewN nq:=⟨_,rfl⟩;rw[<- hw2];have Q2:Hid (Qt w w2):=HQ.out.trans ⟨_,hw2⟩;have c1':w2.cell? ⟨cb,1,none⟩=some (.int .u64 (W 1)):=by rw[hw2];exact c1
      clear hw2 c1 c2 c3 c28 HQ HC
      by_cases h1:W 1=0
      ·have e1:(W 1==0)=true:=by simp[h1]
       have Hv:Hid (Jq W slots size):=⟨HA.out,Hm.out,.inl h1⟩;clear h1;go_wp2_with fail
       go_ret
       exact⟨true,rfl,by simp;exact Hv.out,Q2.out⟩
      ·have e1:(W 1==0)=false:=by simp[h1]
       have Hv:Hid (Wa (W 1).toNat size=true↔Jq W slots size):=⟨fun h=>⟨HA.out,Hm.out,.inr h⟩,fun h=>h.2.2.resolve_left h1⟩;clear h1;go_wp2_with fail
       have hc:=Ww (w:=w2) (W 1).toNat size (by have:=HW.out 1 (by omega);omega);rw[show(((W 1).toNat:Nat):Int)=W 1 from by have:=HW.out 1 (by omega);omega]at hc
       (with_reducible refine hc.mono ?_)
       rintro e w9 ⟨rfl,rfl⟩;clear hc;go_wp2_with fail
       go_ret
       exact⟨_,rfl,Hv.out,Q2.out⟩
     ·have hd:(0:Int)<i:=by omega
      have hd2:0<i:=by omega
      have hkk:∀ wx,Qt wr wx->Calls prog 195 #[.pointer (some ⟨cb,0,none⟩),.int .i64 ((i:Int)-1)] wx fun r w'=>r = .returned (.int .u64 (Tj W slots (slots.length-1)))/\Qt wx w':=by
       intro wx hx;have:=Qnr (HC.out.qt hx) (i-1) (by rw[<- HN.out];omega);rw[show((i-1:Nat):Int)=(i:Int)-1 from by omega]at this;rw[<- HN.out];exact this
      have HKK:=hid hkk;have Hv2:Hid (W 3=1):=h31;clear h30 h31 hn0 hkk;have hw1:IntKind.i64.wrap ((i:Int)-1)=(i:Int)-1:=IntWalk.i64_in _ (by omega);go_wp2_with fail
      go_quiet ((go_at_call 195;exact Calls.quiet_of (HKK.out _ (Qt.drewN _ _))))
      clear hw1;obtain⟨w2,hw2⟩:∃ w2,w2=wr.drewN nq:=⟨_,rfl⟩;rw[<- hw2];have Q2:Hid (Qt w w2):=HQ.out.trans ⟨_,hw2⟩;have c1':w2.cell? ⟨cb,1,none⟩=some (.int .u64 (W 1)):=by rw[hw2];exact c1
      clear hw2 c1 c2 c3 c28 HQ HC
      by_cases hk:W 2<=Tj W slots (slots.length-1)
      ·have Hn:Hid (¬ Jq W slots size):=fun h=>by
        have h1:=Hv2.out
        rcases h.2.1 with h' | h'
        ·omega
        ·have:=h'.2 (by rw[<- HN.out];omega);omega
       go_wp2_with fail
       go_ret
       exact⟨false,rfl,by simp;exact Hn.out,Q2.out⟩
      ·have Hm:Hid (W 3=0/\W 2=0\/W 3=1/\(0<slots.length->Tj W slots (slots.length-1)<W 2)):=.inr ⟨Hv2.out,fun _=>by omega⟩
       by_cases h1:W 1=0
       ·have e1:(W 1==0)=true:=by simp[h1]
        have Hv:Hid (Jq W slots size):=⟨HA.out,Hm.out,.inl h1⟩;clear h1;go_wp2_with fail
        go_ret
        exact⟨true,rfl,by simp;exact Hv.out,Q2.out⟩
       ·have e1:(W 1==0)=false:=by simp[h1]
        have Hv:Hid (Wa (W 1).toNat size=true↔Jq W slots size):=⟨fun h=>⟨HA.out,Hm.out,.inr h⟩,fun h=>h.2.2.resolve_left h1⟩;clear h1;go_wp2_with fail
        have hc:=Ww (w:=w2) (W 1).toNat size (by have:=HW.out 1 (by omega);omega);rw[show(((W 1).toNat:Nat):Int)=W 1 from by have:=HW.out 1 (by omega);omega]at hc
        (with_reducible refine hc.mono ?_)
        rintro e w9 ⟨rfl,rfl⟩;clear hc;go_wp2_with fail
        go_ret
        exact⟨_,rfl,Hv.out,Q2.out⟩
    ·have e31:(W 3==1)=false:=by simp[h31]
     have Hn:Hid (¬ Jq W slots size):=fun h=>by rcases h.2.1 with h' | h' <;> omega
     clear h30 h31;go_wp2_with fail
     go_ret
     exact⟨false,rfl,by simp;exact Hn.out,HQ.out⟩
end
end

section
section
variable{w:World}{v:DV}{own:Nat->Option Qp}{D:Dev}
def Q1i(v:DV)(j p:Nat):Value:=.agg #[.iface 40 (.pointer (some ⟨v.tb j,0,none⟩)),.int .u64 p]
theorem Nl(m:Value)(p i:Nat)(hp:p<18446744073709551616)(hi:i<1000)(hm:m = .nilIface\/∃ t a,m = .iface t (.pointer (some a))) :
  Calls prog 171 #[.agg #[m,.int .u64 p],.int .i64 i] w fun r w'=>r = .returned (.int .u64 (Qo p+8*i:Nat))/\w.alloc (.cells #[m,.int .u64 p] 154)=w':=by
 have hb:Qo p<=34359738360:=by unfold Qo;omega
 have HO:=hid (Vb (w:=w.alloc (.cells #[m,.int .u64 p] 154)) p hp)
 generalize Qo p=o at *
 rcases hm with rfl | ⟨t,a,rfl⟩
 all_goals
  go_enter func171,ntmps171
  go_wp2_with (go_at_call 214;(with_reducible refine HO.out.mono ?_);rintro e w' ⟨rfl,rfl⟩)
  go_ret
  exact⟨Xm (by omega),rfl⟩
def Qv9(w:World)(v:DV)(own:Nat->Option Qp)(D:Dev)(j p k:Nat)(wr:World):Prop:=
 IsDev wr v own D/\Blk wr w.heap.size #[.iface 40 (.pointer (some ⟨v.tb j,0,none⟩)),.int .u64 p] 154 /\
 Row wr (w.heap.size+1) 30 260 (fun i=>if i<28 then .int .u64 (if i<k then D.cur (Qo p/8+i)else 0)else if i=28 then .slice none 0 0 else .int .u64 0)/\Below w.heap.size w wr
theorem Qkj(h:IsDev w v own D)(j p:Nat):Qv9 w v own D j p 0 ((w.alloc (.cells #[.iface 40 (.pointer (some ⟨v.tb j,0,none⟩)),.int .u64 p] 154)).alloc (.cells #[.int .u64 0,.int .u64 0,.int .u64 0,.int .u64 0,.int .u64 0,.int .u64 0,.int .u64 0,.int .u64 0,.int .u64 0,.int .u64 0,.int .u64 0,.int .u64 0,.int .u64 0,.int .u64 0,.int .u64 0,.int .u64 0,.int .u64 0,.int .u64 0,.int .u64 0,.int .u64 0,.int .u64 0,.int .u64 0,.int .u64 0,.int .u64 0,.int .u64 0,.int .u64 0,.int .u64 0,.int .u64 0,.slice none 0 0,.int .u64 0] 260)):=by
 refine⟨(h.alloc _).alloc _,(Blk.new w _ _).alloc _,?_,((Below.refl _ _).alloc (Nat.le_refl _) _).alloc (by simp) _⟩
 have:=Row.new (w.alloc (.cells #[.iface 40 (.pointer (some ⟨v.tb j,0,none⟩)),.int .u64 p] 154)) #[.int .u64 0,.int .u64 0,.int .u64 0,.int .u64 0,.int .u64 0,.int .u64 0,.int .u64 0,.int .u64 0,.int .u64 0,.int .u64 0,.int .u64 0,.int .u64 0,.int .u64 0,.int .u64 0,.int .u64 0,.int .u64 0,.int .u64 0,.int .u64 0,.int .u64 0,.int .u64 0,.int .u64 0,.int .u64 0,.int .u64 0,.int .u64 0,.int .u64 0,.int .u64 0,.int .u64 0,.int .u64 0,.slice none 0 0,.int .u64 0] 260 30 (fun i=>if i<28 then .int .u64 (if i<0 then D.cur (Qo p/8+i)else 0)else if i=28 then .slice none 0 0 else .int .u64 0) (fun i hi=>by
  by_cases h1:i<28
  ·rw[if_pos h1,if_neg (Nat.not_lt_zero _)]
   have:i=0\/i=1\/i=2\/i=3\/i=4\/i=5\/i=6\/i=7\/i=8\/i=9\/i=10\/i=11\/i=12\/i=13\/i=14\/i=15\/i=16\/i=17\/i=18\/i=19\/i=20\/i=21\/i=22\/i=23\/i=24\/i=25\/i=26\/i=27:=by omega
   rcases this with rfl | rfl | rfl | rfl | rfl | rfl | rfl | rfl | rfl | rfl | rfl | rfl | rfl | rfl | rfl | rfl | rfl | rfl | rfl | rfl | rfl | rfl | rfl | rfl | rfl | rfl | rfl | rfl <;> rfl
  ·rw[if_neg h1]
   have:i=28\/i=29:=by omega
   rcases this with rfl | rfl <;> rfl)
 rw[World.size_alloc]at this;exact this
theorem Qpq{j p k:Nat}{wr wx:World}(h:Qv9 w v own D j p k wr)(hk:k<28){q:Nat}(hx:wx=((wr.setCell ⟨w.heap.size+1,k,none⟩ (.int .u64 (D.cur q))).alloc (.cells #[.iface 40 (.pointer (some ⟨v.tb j,0,none⟩)),.int .u64 p] 154)).drew)(hq:q=Qo p/8+k)
  (hown:own (w.heap.size+1)=none):Qv9 w v own D j p (k+1) wx:=by
 subst hx hq;obtain⟨h1,h2,h3,h4⟩:=h;refine⟨?_,?_,?_,?_⟩
 ·refine((h1.kept (w':=wr.setCell ⟨w.heap.size+1,k,none⟩ (.int .u64 (D.cur (Qo p/8+k)))) (by simp[World.setCell]) (fun b hb=>Below.heap_setCell _ _ _ _ (fun e => ?_))).alloc _).drew
  have e':b=w.heap.size+1:=e;rw[e',hown]at hb;exact hb rfl
 ·exact(h2.other (a:=⟨w.heap.size+1,k,none⟩) (by show w.heap.size≠w.heap.size+1;omega) _).alloc _
 ·refine((h3.set k _).alloc _).congr (fun i hi => ?_)
  by_cases e:i=k
  ·subst e;rw[if_pos rfl,if_pos hk,if_pos (Nat.lt_succ_self _)]
  ·rw[if_neg e]
   by_cases e1:i<28
   ·rw[if_pos e1,if_pos e1]
    by_cases e2:i<k
    ·rw[if_pos e2,if_pos (by omega)]
    ·rw[if_neg e2,if_neg (by omega)]
   ·rw[if_neg e1,if_neg e1]
 ·exact((h4.setCell (p:=⟨w.heap.size+1,k,none⟩) (by show w.heap.size<=w.heap.size+1;omega) _).alloc (by have:=h4.size;simp[World.setCell];exact this) _).drew
def Qgz(w:World)(W:Nat->Int)(size:Nat)(r:Ending)(w':World):Prop:=
 Below w.heap.size w w' /\
 (((Jm (W 0).toNat/\Jq W (Yr (W 0).toNat ((W 0).toNat%16)) size)/\∃ cb,r = .returned (.tuple #[.pointer (some ⟨cb,0,none⟩),.int .i64 0])/\w.heap.size<=cb /\
   Xy w' cb W (Yr (W 0).toNat ((W 0).toNat%16)) ((W 0).toNat/4503599627370496)) \/
  (¬ (Jm (W 0).toNat/\Jq W (Yr (W 0).toNat ((W 0).toNat%16)) size)/\r = .returned (.tuple #[.pointer none,.int .i64 11])))
theorem Qpm{j p x0:Nat}{wr w1:World}(h:Qv9 w v own D j p 28 wr)(hb:Below wr.heap.size wr w1){sv:Value}(ho:Qj w1 3 1 sv (x0%16) (Zi (Yr x0 (x0%16))))(hg:∀ g,sv.ownBlock=some g->wr.heap.size<=g)
  (hok:Jm x0) {wx:World} {c:Int} (hx:wx=(w1.setCell ⟨w.heap.size+1,28,none⟩ sv).setCell ⟨w.heap.size+1,29,none⟩ (.int .u64 c)) (_hx0:D.cur (Qo p/8)=x0) (hc:c=(x0:Int)/4503599627370496) :
  Xy wx (w.heap.size+1) (fun i=>D.cur (Qo p/8+i)) (Yr x0 (x0%16)) (x0/4503599627370496):=by
 subst hx hc;obtain⟨h1,h2,h3,h4⟩:=h;have hlt:=h3.lt;have hr:=h3.below hb;have hr2:=(hr.set 28 sv).set 29 (.int .u64 ((x0:Int)/4503599627370496));have hne:∀ g,sv.ownBlock=some g->g≠w.heap.size+1:=fun g hg'=>by have:=hg g hg';omega
 have hsl:=(ho.other (a:=⟨w.heap.size+1,28,none⟩) hne sv).other (a:=⟨w.heap.size+1,29,none⟩) hne (.int .u64 ((x0:Int)/4503599627370496));have hc28:=hr2.cell (i:=28) (by omega);rw[if_neg (by omega),if_pos rfl]at hc28;refine⟨fun i hi => ?_,⟨sv,?_,?_⟩,?_,?_,?_,by obtain⟨c,hc,_⟩:=hr2;exact⟨c,hc⟩,fun sv' hsv g hg => ?_⟩
 ·rw[hr2.cell (by omega),if_neg (by omega),if_neg (by omega),if_pos hi,if_pos hi]
 ·rw[hr2.cell (by omega)];simp
 ·have hl:(Yr x0 (x0%16)).length=x0%16:=by simp[Yr]
  rw[hl];have hne:∀ g,sv.ownBlock=some g->g≠w.heap.size+1:=fun g hg'=>by have:=hg g hg';omega
  exact((ho.other (a:=⟨w.heap.size+1,28,none⟩) hne _).other (a:=⟨w.heap.size+1,29,none⟩) hne _).rd
 ·rw[hr2.cell (by omega),if_pos rfl];congr 2
 ·intro s hs
  simp only[Yr,List.mem_map,List.mem_range]at hs;obtain⟨i,hi,rfl⟩:=hs;exact((hok.2 i (by have:=hok.1;omega)).2 hi).1
 ·simp[Yr];exact hok.1
 ·rw[hc28]at hsv
  cases hsv
  rcases hsl.2 with ⟨rfl,_⟩ | ⟨g',o,cap,cur,rfl,hg',_⟩
  ·simp[Value.ownBlock]at hg
  ·simp[Value.ownBlock]at hg;subst hg;exact⟨cur,hg'⟩
theorem Qh1{j p:Nat}{wr w1 w2 wx:World}(h:Qv9 w v own D j p 28 wr)(hb:Below wr.heap.size wr w1){sv u:Value}(hq:Qt wx w2)(hx:wx=(w1.setCell ⟨w.heap.size+1,28,none⟩ sv).setCell ⟨w.heap.size+1,29,none⟩ u):Below w.heap.size w w2:=by
 subst hx;have h1:Below w.heap.size w w1:=h.2.2.2.trans (hb.mono h.2.2.2.size);have h2:=(h1.setCell (p:=⟨w.heap.size+1,28,none⟩) (by show w.heap.size<=w.heap.size+1;omega) sv).setCell (p:=⟨w.heap.size+1,29,none⟩) (by show w.heap.size<=w.heap.size+1;omega) u;obtain⟨n,rfl⟩:=hq;exact⟨h2.os,h2.tape,h2.output,h2.size,h2.block⟩
theorem Qpn(h:IsDev w v own D){j:Nat}(hj:j<8)(p:Nat)(hp:p<18446744073709551616)(hp0:0<p)(ho:D.off=false)(he:D.err j=0)(hr:Qo p+224<=64*D.n)
  (hW:∀ i,i<28->0<=D.cur (Qo p/8+i)/\D.cur (Qo p/8+i)<18446744073709551616) :
  Calls prog 168 #[Q1i v j p] w (Qgz w (fun i=>D.cur (Qo p/8+i)) (D.n*64)):=by
 have hn:=h.wf.le;obtain⟨x0,hx00⟩:∃ x0:Nat,D.cur (Qo p/8)=x0:=⟨(D.cur (Qo p/8)).toNat,by have:=hW 0 (by omega);simp only[Nat.add_zero]at this;omega⟩;have hx0:x0<18446744073709551616:=by have:=hW 0 (by omega);simp only[Nat.add_zero]at this;omega
 have HX:=hid hx00;have HW:=hid hW;clear hx00 hW
 have hp0':((p:Int)==0)=false:=by simp;omega
 have h1:¬ ((D.n:Int)*64<224):=by omega
 have h2:¬ ((D.n:Int)*64-224<(Qo p:Int)):=by omega
 have hm1:=meth_Size ⟨v.tb j,0,none⟩;have hm2:=meth_Err ⟨v.tb j,0,none⟩;have hm3:=meth_Load ⟨v.tb j,0,none⟩
 have H:=hid h;have HO:=hid ho;have HE:=hid he;clear h ho he
 have HP:=hid (fun wx=>Vb (w:=wx) p hp);have herr:∀ wx,IsDev wx v own D->Calls prog 289 #[.pointer (some ⟨v.tb j,0,none⟩)] wx fun r w'=>r = .returned (.int .i64 0)/\wx=w':=fun wx hx=>by have:=err_any hx hj;rw[HE.out]at this;exact this
 have HR:=hid herr;clear herr
 unfold Q1i
 go_enter func168,ntmps168
 go_wp2_with fail
 (with_reducible refine(thrSize_any (H.out.alloc _) hj).mono ?_)
 rintro e w' ⟨rfl,rfl⟩;go_wp2_with fail
 (with_reducible refine(HP.out _).mono ?_)
 rintro e w' ⟨rfl,rfl⟩;go_wp2_with fail
 (with_reducible refine(HR.out _ (H.out.alloc _)).mono ?_)
 rintro e w' ⟨rfl,rfl⟩;go_wp2_with fail
 have M0:=hid (Qkj H.out j p);have Hown:Hid (own (w.heap.size+1)=none):=by
  show own (w.heap.size+1)=none
  cases ho:own (w.heap.size+1)with
  | none=>rfl
  | some r=>have:=H.out.lt (w.heap.size+1) (by rw[ho];simp);omega
 go_loopw [40] (fun x wr=>∃ k:Nat,k<=28/\x = .int .i64 k/\Qv9 w v own D j p k wr) (fun x _=>28-(intOf x).toNat)
 case atStart=>exact⟨0,by omega,rfl,M0.out⟩
 case round=>
  obtain⟨k,hk,rfl,hmid⟩:=hrel;have HM:=hid hmid
  by_cases hlt:k<28
  ·have c0:wr.cell? ⟨w.heap.size,0,none⟩=some (.iface 40 (.pointer (some ⟨v.tb j,0,none⟩))):=hmid.2.1.cell rfl
   have c1:wr.cell? ⟨w.heap.size,1,none⟩=some (.int .u64 p):=hmid.2.1.cell rfl;have c2:∃ u,wr.cell? ⟨w.heap.size+1,k,none⟩=some u:=⟨_,hmid.2.2.1.cell (by omega)⟩;have f2:=hmid.2.2.1.frozen k;have s0:w.heap.size<wr.heap.size:=hmid.2.1.lt;have s1:w.heap.size+1<wr.heap.size:=hmid.2.2.1.lt;have hk28:(k:Int)<28:=by omega
   obtain⟨u2,c2⟩:=c2;have HD:=hid hmid.1;clear hmid;have HL:=hid (fun wx (hx:IsDev wx v own D)=>load_ok hx hj (Qo p+8*k) HO.out (by unfold Qo;omega) (by omega));have HQ:Hid ((Qo p+8*k)/8=Qo p/8+k):=by show(Qo p+8*k)/8=_;unfold Qo;omega
   go_upto_block 1 with fail
   go_cut [] (fun wx=>Qv9 w v own D j p (k+1) wx)
   case first=>
    go_wp2_with fail
    go_region_with (first | (go_at_call 171;refine(Nl _ p k hp (by omega) (.inr ⟨_,_,rfl⟩)).mono ?_;rintro e w' ⟨rfl,rfl⟩) | (go_at_call 290;refine(HL.out _ ?hd).mono ?_;(case hd=>first | exact(HD.out.alloc _).drew | exact HD.out.drew);rintro e w' ⟨rfl,rfl⟩))
    all_goals go_wp2_with fail
    all_goals go_meet
    all_goals exact Qpq HM.out hlt rfl HQ.out Hown.out
   case rest=>
    have HM1:=hid hcut;clear hcut c0 c1 c2 f2;go_wp2_with fail
    go_roundw
    case rel=>exact⟨k+1,by omega,by go_num,HM1.out⟩
    case measure=>simp[intOf];omega
  ·obtain rfl:k=28:=by omega
   rw[show((28:Nat):Int)=28 from rfl];have c0:wr.cell? ⟨w.heap.size,0,none⟩=some (.iface 40 (.pointer (some ⟨v.tb j,0,none⟩))):=hmid.2.1.cell rfl;have c2:wr.cell? ⟨w.heap.size+1,0,none⟩=some (.int .u64 x0):=by rw[hmid.2.2.1.cell (by omega)];simp[HX.out]
   have HD:=hid hmid.1;clear hmid hlt;go_wp2_with fail
   (with_reducible refine(HR.out _ HD.out).mono ?_)
   rintro e w' ⟨rfl,rfl⟩;go_wp2_with fail
   (with_reducible refine(Qo6 x0 hx0).mono ?_)
   rintro e w1 hpp;have hbl:=hpp.1;have s1:w.heap.size+1<wr.heap.size:=HM.out.2.2.1.lt;have r1:=HM.out.2.2.1;have d0:w1.cell? ⟨w.heap.size+1,0,none⟩=some (.int .u64 x0):=(hbl.cell (p:=⟨w.heap.size+1,0,none⟩) s1).trans c2;have d28:w1.cell? ⟨w.heap.size+1,28,none⟩=some (.slice none 0 0):=(hbl.cell (p:=⟨w.heap.size+1,28,none⟩) s1).trans (by rw[r1.cell (by omega)];simp);have d29:w1.cell? ⟨w.heap.size+1,29,none⟩=some (.int .u64 0):=(hbl.cell (p:=⟨w.heap.size+1,29,none⟩) s1).trans (by rw[r1.cell (by omega)];simp);have f28:w1.frozen? ⟨w.heap.size+1,28,none⟩=false:=(hbl.frozen (p:=⟨w.heap.size+1,28,none⟩) s1).trans (r1.frozen 28);have f29:w1.frozen? ⟨w.heap.size+1,29,none⟩=false:=(hbl.frozen (p:=⟨w.heap.size+1,29,none⟩) s1).trans (r1.frozen 29);have HB:=hid hbl;clear hbl r1 c0 c2
   rcases hpp.2 with ⟨hok,sv,rfl,ho,hg⟩ | ⟨hbad,rfl⟩
   ·obtain⟨sa,sc,hsv⟩:=ho.slice
    subst hsv;have HOK:=hid hok;have HS:=hid (And.intro ho hg)
    clear hok ho hg hpp;go_wp2_with fail
    have hcont:=Qpm HM.out HB.out HS.out.1 HS.out.2 HOK.out rfl HX.out rfl;have hv:=Qk6 hcont (D.n*64) HW.out;rw[show((D.n*64:Nat):Int)=(D.n:Int)*64 from by omega]at hv;have HC:=hid hcont;clear hcont
    (with_reducible refine hv.mono ?_)
    rintro e w2 ⟨b,rfl,hb,hq⟩;have HF:=hid (Qh1 HM.out HB.out hq rfl);have HC2:=hid (HC.out.qt hq);have HVB:=hid hb;clear hv hq hb
    cases b
    ·go_wp2_with fail
     go_ret2
     refine⟨HF.out,.inr ⟨?_,rfl⟩⟩
     simp only[Nat.add_zero];rw[HX.out,Int.toNat_natCast];exact fun h=>Bool.false_ne_true (HVB.out.2 h.2)
    ·go_wp2_with fail
     go_ret2
     refine⟨HF.out,.inl ?_⟩
     simp only[Nat.add_zero];rw[HX.out,Int.toNat_natCast];exact⟨⟨HOK.out,HVB.out.1 trivial⟩,_,rfl,Nat.le_succ _,HC2.out⟩
   ·have HN:Hid (¬ (Jm (D.cur (Qo p/8)).toNat/\Jq (fun i=>D.cur (Qo p/8+i)) (Yr (D.cur (Qo p/8)).toNat ((D.cur (Qo p/8)).toNat%16)) (D.n*64))):=by
     show ¬ _
     rw[HX.out,Int.toNat_natCast];exact fun h=>hbad h.1
    clear hbad hpp;go_wp2_with fail
    go_ret2
    exact⟨Qh1 HM.out HB.out (Qt.refl _) rfl,.inr ⟨HN.out,rfl⟩⟩
end
end

section
section
variable{w:World}
theorem Qjw(l:List Nat)(k:Nat):(Zi l).take k=Zi (l.take k):=by simp[Zi,List.map_take]
theorem Qju(l:List Nat)(k:Nat):(Zi l).drop k=Zi (l.drop k):=by simp[Zi,List.map_drop]
def Qlh(w:World)(l:List Nat)(r:Ending)(w':World):Prop:=∃ v,r = .returned v/\Qj w' 3 1 v l.length (Zi l)/\(∀ g,v.ownBlock=some g->w.heap.size<=g)/\Below w.heap.size w w'
theorem Qnl{slots:List Nat}{i s:Nat}(hi:i<=slots.length){w3:World}{v3:Value}(o:Qj w3 3 1 v3 (i+1+(slots.length-i)) ((Zi (slots.take i) ++ [.int .i64 s])++Zi (slots.drop i)))(h:Below w.heap.size w w3/\∀ g,v3.ownBlock=some g->w.heap.size<=g) :
  Qlh w (slots.take i++s::slots.drop i) (.returned v3) w3:=by
 refine⟨v3,rfl,?_,h.2,h.1⟩
 have e1:(slots.take i++s::slots.drop i).length=i+1+(slots.length-i):=by simp;omega
 have e2:Zi (slots.take i++s::slots.drop i)=(Zi (slots.take i) ++ [.int .i64 s])++Zi (slots.drop i):=by simp[Zi]
 rw[e1,e2];exact o
theorem Qcz(sv:Value)(slots:List Nat)(i s:Nat)(hs:Ql w 1 sv slots.length (Zi slots))(hi:i<=slots.length)(hl:slots.length<=1000) :
  Calls prog 175 #[sv,.int .i64 i,.int .i64 s] w (Qlh w (slots.take i++s::slots.drop i)):=by
 obtain⟨i0,hi0,hz0,hz1,hz2⟩:=info_parts Bi;have I:=hid (And.intro hi0 (And.intro hz0 (And.intro hz1 hz2)));clear hi0 hz0 hz1 hz2
 obtain⟨a,c,rfl⟩:∃ a c,sv = .slice a slots.length c:=by obtain⟨_,a,c,e,_⟩:=hs;exact⟨a,c,e⟩
 have hc:slots.length<=c:=by obtain⟨_,_,_,e,hc,_⟩:=hs;cases e;exact hc
 have hic:(i:Int)<=c:=by omega
 have hil:(i:Int)<=slots.length:=by omega
 have t1:Ql w 1 (.slice a i c) i (Zi (slots.take i)):=by have:=hs.takeG i hi;rw[Nat.mul_one,Qjw]at this;exact this
 have t2:Ql w 1 (.slice (if c=i then a else a.map (·.add i)) (slots.length-i) (c-i)) (slots.length-i) (Zi (slots.drop i)):=by have:=hs.dropG i hi;rw[Qju,Nat.mul_one]at this;exact this
 have T1:=hid t1;have T2:=hid t2
 clear hs t1 t2;have hlen2:(slots.take i).length=i:=by rw[List.length_take];omega
 have HL2:=hid hlen2;clear hlen2
 have key:∀ (da:Option Addr),Hid (da=(if c=i then a else a.map (·.add i)))->Ql w 1 (.slice da (slots.length-i) (c-i)) (slots.length-i) (Zi (slots.drop i)):=fun da h=>by rw[h.out];exact T2.out
 have KEY:=hid key;clear key
 by_cases hci:c=i
 ·have T3:=hid (KEY.out a (by show a=_;rw[if_pos hci]))
  clear KEY T2;obtain rfl:i=c:=hci.symm;clear hci;have hz:slots.length-i=0:=by omega
  rw[Nat.sub_self,hz]at T3;have HZ:=hid hz;clear hz
  go_enter func175,ntmps175
  go_wp2_with (at_builtin;refine Qc _ rfl _ _ 60 rfl 3 i0 _ 1 8 underlying60 I.out.1 I.out.2.1 I.out.2.2.1 I.out.2.2.2 rfl (by decide) _ 0 [] rfl (by exact Qj.new _ _ _ 1 0 0 rfl (Nat.le_refl _) (Nat.zero_le _)) _ i (Zi (slots.take i)) rfl (by exact T1.out.alloc _) (Sn _) (by unfold maxLen;omega) (by omega) ?_)
  intro v1 w1 o1 g1 b1 n1;have hb:Below w.heap.size w w1/\∀ g,v1.ownBlock=some g->w.heap.size<=g:=Vo (v1:=.slice (some ⟨w.heap.size,0,none⟩) 0 0) ⟨Qa w (.cells #[] 3),fun g hg=>by cases hg;exact Nat.le_refl _⟩ (Below.refl _ _) g1 b1 (by omega);have O1:=hid (And.intro o1 hb);clear o1 g1 b1 n1 hb;go_wp2_with fail
  go_region_law (first | (refine Yz rfl (.tmp 13) (.tmp 15) 60 rfl 3 i0 _ 1 8 underlying60 I.out.1 I.out.2.1 I.out.2.2.1 I.out.2.2.2 rfl (by decide) v1 i (Zi (slots.take i)) rfl (by exact(O1.out.1.alloc _).drew) _ 1 _ rfl (by exact(Ql.newAt _ _ _ 1 1 _ (by simp) rfl).drew) (Qaw _ _) (by unfold maxLen;omega) (by omega) ?_;intro v2 w2 o2 g2 b2;have hb2:=Vo O1.out.2 (Xn w1 _) g2 b2 (by have:=O1.out.2.1.size;simp[World.drew];omega);have O2:=hid (And.intro o2 hb2);have R2:=hid (T3.out.below hb2.1);clear o2 g2 b2 hb2) | (refine Yz rfl (.tmp 16) (.tmp 19) 60 rfl 3 i0 _ 1 8 underlying60 I.out.1 I.out.2.1 I.out.2.2.1 I.out.2.2.2 rfl (by decide) v2 (i+1) _ rfl (by exact O2.out.1) _ 0 (Zi (slots.drop i)) rfl (by exact R2.out) (Sn _) (by unfold maxLen;omega) (by omega) ?_;intro v3 w3 o3 g3 b3;have hb3:=Vo O2.out.2 (Below.refl _ _) g3 b3 (by have:=O2.out.2.1.size;omega);have O3:=hid (And.intro o3 hb3);clear o3 g3 b3 hb3))
  all_goals
   go_wp2_with fail
   go_ret
   exact Qnl hi (by rw[HZ.out];exact O3.out.1) O3.out.2
 ·have T3:=hid (KEY.out (a.map (·.add i)) (by show _=_;rw[if_neg hci]))
  clear KEY T2
  go_enter func175,ntmps175
  go_wp2_with (at_builtin;refine Qc _ rfl _ _ 60 rfl 3 i0 _ 1 8 underlying60 I.out.1 I.out.2.1 I.out.2.2.1 I.out.2.2.2 rfl (by decide) _ 0 [] rfl (by exact Qj.new _ _ _ 1 0 0 rfl (Nat.le_refl _) (Nat.zero_le _)) _ i (Zi (slots.take i)) rfl (by exact T1.out.alloc _) (Sn _) (by unfold maxLen;omega) (by omega) ?_)
  intro v1 w1 o1 g1 b1 n1;have hb:Below w.heap.size w w1/\∀ g,v1.ownBlock=some g->w.heap.size<=g:=Vo (v1:=.slice (some ⟨w.heap.size,0,none⟩) 0 0) ⟨Qa w (.cells #[] 3),fun g hg=>by cases hg;exact Nat.le_refl _⟩ (Below.refl _ _) g1 b1 (by omega);have O1:=hid (And.intro o1 hb);clear o1 g1 b1 n1 hb;go_wp2_with fail
  go_region_law (first | (refine Yz rfl (.tmp 13) (.tmp 15) 60 rfl 3 i0 _ 1 8 underlying60 I.out.1 I.out.2.1 I.out.2.2.1 I.out.2.2.2 rfl (by decide) v1 i (Zi (slots.take i)) rfl (by exact(O1.out.1.alloc _).drew) _ 1 _ rfl (by exact(Ql.newAt _ _ _ 1 1 _ (by simp) rfl).drew) (Qaw _ _) (by unfold maxLen;omega) (by omega) ?_;intro v2 w2 o2 g2 b2;have hb2:=Vo O1.out.2 (Xn w1 _) g2 b2 (by have:=O1.out.2.1.size;simp[World.drew];omega);have O2:=hid (And.intro o2 hb2);have R2:=hid (T3.out.below hb2.1);clear o2 g2 b2 hb2) | (refine Yz rfl (.tmp 16) (.tmp 19) 60 rfl 3 i0 _ 1 8 underlying60 I.out.1 I.out.2.1 I.out.2.2.1 I.out.2.2.2 rfl (by decide) v2 (i+1) _ rfl (by exact O2.out.1) _ (slots.length-i) (Zi (slots.drop i)) rfl (by exact R2.out) (Sn _) (by unfold maxLen;omega) (by omega) ?_;intro v3 w3 o3 g3 b3;have hb3:=Vo O2.out.2 (Below.refl _ _) g3 b3 (by have:=O2.out.2.1.size;omega);have O3:=hid (And.intro o3 hb3);clear o3 g3 b3 hb3))
  all_goals
   go_wp2_with fail
   go_ret
   exact Qnl hi O3.out.1 O3.out.2
end
end

section
def Tf(slots:List Nat):Nat->Nat->Nat
 | 0,s=>s
 | f+1,s=>if s∈slots then Tf slots f (s+1)else s
def Ko(slots:List Nat):Nat:=Tf slots 13 0
theorem Cr(slots:List Nat)(f:Nat)(h1:f∉slots):∀ (n s:Nat),s<=f->f<s+n->(∀ t,s<=t->t<f->t∈slots)->Tf slots n s=f:=by
 intro n
 induction n with
 | zero=>intro s h2 h3;omega
 | succ n ih=>
  intro s h2 h3 h4;unfold Tf
  by_cases e:s=f
  ·subst e;rw[if_neg h1]
  ·rw[if_pos (h4 s (Nat.le_refl _) (by omega))]
   exact ih (s+1) (by omega) (by omega) (fun t h5 h6=>h4 t (by omega) h6)
theorem Qd4(slots:List Nat)(f:Nat)(hf:f<13)(h1:f∉slots)(h2:∀ s,s<f->s∈slots):Ko slots=f:=
 Cr slots f h1 13 0 (by omega) (by omega) (fun t _ h=>h2 t h)
theorem Q2g(n:Nat):∀ l:List Nat,(∀ s,s<n->s∈l)->n<=l.length:=by
 induction n with
 | zero=>intro l _;omega
 | succ n ih=>
  intro l h;have h1:=h n (by omega);have h2:=ih (l.erase n) (fun s hs=>(List.mem_erase_of_ne (by omega)).2 (h s (by omega)));rw[List.length_erase_of_mem h1]at h2;have:=List.length_pos_of_mem h1;omega
theorem Qn1(l:List Nat):∀ n,(∃ f,f<n/\f∉l)->∃ f,f<n/\f∉l/\∀ s,s<f->s∈l:=by
 intro n
 induction n with
 | zero=>rintro⟨f,h,_⟩;omega
 | succ n ih=>
  intro h
  by_cases h':∃ f,f<n/\f∉l
  ·obtain⟨f,h1,h2⟩:=ih h';exact⟨f,by omega,h2⟩
  ·obtain⟨f,h1,h2⟩:=h
   refine⟨f,h1,h2,fun s hs => ?_⟩
   exact Classical.byContradiction (fun h3=>h' ⟨s,by omega,h3⟩)
theorem Qnc(l:List Nat)(n:Nat)(h:l.length<n):∃ f,f<n/\f∉l/\∀ s,s<f->s∈l:=
 Qn1 l n (Classical.byContradiction (fun h'=>by
  have:=Q2g n l (fun s hs=>Classical.byContradiction (fun h3=>h' ⟨s,hs,h3⟩));omega))
section
variable{w:World}
theorem En(off:Nat)(ho:off<18446744073709551616):Calls prog 173 #[.int .u64 off] w fun r w'=>r = .returned (.int .u64 (off-off%64:Nat))/\w=w':=by
 have h1:(off:Int)%64<=off:=by omega
 go_enter func173,ntmps173
 go_wp2
 go_ret
 exact⟨Xm (by first | omega | (rw[IntKind.wrap_u64];omega)),rfl⟩
def Qv5(w:World)(pv:Value)(l:List (Nat×Nat×Int))(r:Ending)(w':World):Prop:=
 ∃ v,r = .returned v/\Qj w' 73 3 v l.length (Qd l)/\(Zc v=Zc pv\/∃ g,Zc v=some ⟨g,0,none⟩/\w.heap.size<=g)/\Upd (fun k=>pv.ownBlock=some k) w w'
theorem Qis(pv:Value)(l:List (Nat×Nat×Int))(off:Nat)(x:Int)(hp:Qj w 73 3 pv l.length (Qd l))(hl:l.length<=100000) :
  Calls prog 170 #[pv,.int .u64 off,.int .u64 x] w (Qv5 w pv (l ++ [(1,off,x),(2,off,0),(3,0,0)])):=by
 obtain⟨i0,hi0,hz0,hz1,hz2⟩:=info_parts Xs;have I:=hid (And.intro hi0 (And.intro hz0 (And.intro hz1 hz2)));clear hi0 hz0 hz1 hz2
 obtain⟨pa,pc,hpv⟩:=hp.slice;subst hpv;have HP:=hid hp;clear hp
 go_enter func170,ntmps170
 go_wp2_with (at_builtin;refine Qc _ rfl _ _ 37 rfl 73 i0 _ 3 24 underlying37 I.out.1 I.out.2.1 I.out.2.2.1 I.out.2.2.2 rfl (by decide) _ l.length (Qd l) rfl (by exact HP.out.alloc _) _ 3 (Qd [(1,off,x),(2,off,0),(3,0,0)]) rfl (by exact Ql.newAt _ _ _ 3 3 _ rfl rfl) (Zn _) (by unfold maxLen;omega) (by omega) ?_)
 intro v1 w1 o1 g1 b1 n1;have O1:=hid (And.intro o1 (And.intro g1 b1));clear o1 g1 b1 n1
 obtain⟨va,vc,hv⟩:=O1.out.1.slice;go_wp2_with fail
 go_ret
 refine⟨v1,rfl,by rw[Zv,List.length_append];exact O1.out.1,?_,?_⟩
 ·rcases O1.out.2.2 with h | h
  ·exact .inl h
  ·exact .inr ⟨_,h,by simp⟩
 ·exact((Upd.refl _ w).alloc _).grown O1.out.2.1 (fun k hk _=>hk)
theorem Q7g(w:World):Row (w.alloc (.cells #[.bool false,.bool false,.bool false,.bool false,.bool false,.bool false,.bool false,.bool false,.bool false,.bool false,.bool false,.bool false,.bool false] 292)) w.heap.size 13 292 (fun j => .bool (decide (j∈([]:List Nat)))):=by
 refine Row.new w _ _ _ _ (fun j hj => ?_)
 obtain rfl | rfl | rfl | rfl | rfl | rfl | rfl | rfl | rfl | rfl | rfl | rfl | rfl:j=0\/j=1\/j=2\/j=3\/j=4\/j=5\/j=6\/j=7\/j=8\/j=9\/j=10\/j=11\/j=12:=by omega
 all_goals simp
theorem Qk4(sv:Value)(slots:List Nat)(hs:Ql w 1 sv slots.length (Zi slots))(h12:∀ s∈slots,s<12)(hl:slots.length<12) :
  Calls prog 172 #[sv] w fun r w'=>r = .returned (.int .i64 (Ko slots))/\Ko slots<12/\Ko slots∉slots/\Below w.heap.size w w':=by
 obtain⟨_,a,c,rfl,hc,ha⟩:=hs;have HA:=hid ha;have H12:=hid h12;clear ha h12
 obtain⟨f,hf12,hfn,hfl⟩:=Qnc slots 12 hl;have HU:Hid (Ko slots=f):=Qd4 slots f (by omega) hfn hfl;have HF:=hid (And.intro hfn hfl);clear hfn hfl
 have M0:=hid (Q7g w)
 go_enter func172,ntmps172
 go_wp2_with fail
 go_loopw [9] (fun x wr=>∃ k:Nat,k<=slots.length/\x = .int .i64 k/\Row wr w.heap.size 13 292 (fun j => .bool (decide (j∈slots.take k)))/\Below w.heap.size w wr) (fun x _=>slots.length-(intOf x).toNat)
 case atStart=>exact⟨0,Nat.zero_le _,rfl,by simpa using M0.out,Qa w _⟩
 case round=>
  obtain⟨k,hk,rfl,hrow,hb⟩:=hrel;have HR:=hid (And.intro hrow hb)
  by_cases hlt:k<slots.length
  ·obtain⟨s,hs⟩:∃ s,slots[k]? = some s:=⟨_,List.getElem?_eq_getElem hlt⟩
   have hs12:=H12.out s (List.mem_of_getElem? hs);have hv:(Zi slots)[k]? = some (.int .i64 s):=by simp[Zi,hs]
   obtain⟨sb,so,rfl,hcell⟩:=Zr HA.out hv;have e1:=(hb.cell (p:=⟨sb,so+k,none⟩) (World.block_lt_of_cell? w _ (hcell _ _ hv))).trans (hcell _ _ hv);have c2:wr.cell? ⟨w.heap.size,s,none⟩=some (.bool (decide (s∈slots.take k))):=hrow.cell (by omega);have f2:=hrow.frozen s;have hs13:(s:Int)<13:=by omega
   have HS:=hid hs;clear hs hv hcell hrow hb;go_wp2_with fail
   go_roundw
   case rel=>
    refine⟨k+1,by omega,by go_num,(HR.out.1.set s (.bool true)).congr (fun j _ => ?_),HR.out.2.setCell (p:=⟨w.heap.size,s,none⟩) (Nat.le_refl _) _⟩
    rw[List.take_add_one,HS.out]
    by_cases e:j=s
    ·subst e;simp
    ·rw[if_neg e];simp[e]
   case measure=>simp[intOf];omega
  ·obtain rfl:k=slots.length:=by omega
   rw[List.take_length]at hrow;have HR2:=hid (And.intro hrow hb);clear HR hrow hb hlt;go_wp2_with fail
   go_loop [6] (fun x=>∃ i:Nat,i<=f/\x = .int .i64 i) (fun x=>f-(intOf x).toNat)
   case atStart=>exact⟨0,Nat.zero_le _,rfl⟩
   case round=>
    obtain⟨i,hi,rfl⟩:=hrel;have c2:wr.cell? ⟨w.heap.size,i,none⟩=some (.bool (decide (i∈slots))):=HR2.out.1.cell (by omega);have hi13:(i:Int)<13:=by omega
    by_cases hif:i=f
    ·subst hif
     rw[decide_eq_false HF.out.1]at c2;go_wp2_with fail
     go_ret
     exact⟨Xm (by rw[HU.out]),by rw[HU.out];exact hf12,by rw[HU.out];exact HF.out.1,HR2.out.2⟩
    ·rw[decide_eq_true (HF.out.2 i (by omega))]at c2
     go_wp2_with fail
     go_round
     case rel=>exact⟨i+1,by omega,by go_num⟩
     case measure=>simp[intOf];omega
end
end

section
def Zd(W:Nat->Int):List Nat:=Yr (W 0).toNat ((W 0).toNat%16)
def Xk(W:Nat->Int)(size:Nat):Prop:=Jm (W 0).toNat/\Jq W (Zd W) size
def Xc(D:Dev)(p:Nat):Nat->Int:=fun i=>D.cur (Qo p/8+i)
structure Yw(w:World)(v:DV)(own:Nat->Option Qp)(D:Dev)(j p:Nat):Prop where
 dev:IsDev w v own D
 hj:j<8
 hp:p<18446744073709551616
 hp0:0<p
 on:D.off=false
 err:D.err j=0
 range:Qo p+224<=64*D.n
 hW:∀ i,i<28->0<=Xc D p i/\Xc D p i<18446744073709551616
section
variable{w:World}{v:DV}{own:Nat->Option Qp}{D:Dev}{j p:Nat}
theorem Yw.alloc(h:Yw w v own D j p)(o:Obj):Yw (w.alloc o) v own D j p:={h with dev:=h.dev.alloc o}
theorem Yw.below{w':World}(h:Yw w v own D j p)(hb:Below w.heap.size w w'):Yw w' v own D j p:={h with dev:=h.dev.kept hb.size (fun k hk=>hb.block k (h.dev.lt k hk))}
theorem Yw.read(h:Yw w v own D j p):Calls prog 168 #[.agg #[.iface 40 (.pointer (some ⟨v.tb j,0,none⟩)),.int .u64 p]] w (Qgz w (Xc D p) (D.n*64)):=
 Qpn h.dev h.hj p h.hp h.hp0 h.on h.err h.range h.hW
def Jk(w:World)(W:Nat->Int)(size:Nat)(good bad:Value)(r:Ending)(w':World):Prop:=
 Below w.heap.size w w'/\((Xk W size/\r = .returned good)\/(¬ Xk W size/\r = .returned bad))
theorem We(_h1:Below w.heap.size w w){o:Obj}{w1 w2:World}(hb:Below (w.alloc o).heap.size (w.alloc o) w1)(hq:Below w1.heap.size w1 w2):Below w.heap.size w w2:=by
 have h2:Below w.heap.size w w1:=(Qa w o).trans (hb.mono (by simp));exact h2.trans (hq.mono h2.size)
theorem Qfr(h:Yw w v own D j p):Calls prog 179 #[.agg #[.iface 40 (.pointer (some ⟨v.tb j,0,none⟩)),.int .u64 p]] w
  (Jk w (Xc D p) (D.n*64) (.int .i64 (Zd (Xc D p)).length) (.int .i64 0)):=by
 have H:=hid h;clear h
 go_enter func179,ntmps179
 go_wp2_with fail
 (with_reducible refine(H.out.alloc _).read.mono ?_)
 rintro e w1 ⟨hb,⟨hok,cb,rfl,_,hc⟩ | ⟨hbad,rfl⟩⟩
 ·obtain⟨sv,c28,hrd⟩:=hc.sl
  obtain⟨_,a,c,rfl,hcap,_⟩:=hrd;have HB:=hid hb;have HO:=hid hok;clear hb hok hc
  go_wp2_with fail
  go_ret
  exact⟨We (Below.refl _ _) HB.out (Below.refl _ _),.inl ⟨HO.out,rfl⟩⟩
 ·have HB:=hid hb;have HO:=hid hbad;clear hb hbad
  go_wp2_with fail
  go_ret
  exact⟨We (Below.refl _ _) HB.out (Below.refl _ _),.inr ⟨HO.out,rfl⟩⟩
theorem Ap(h:Yw w v own D j p):Calls prog 127 #[.agg #[.iface 40 (.pointer (some ⟨v.tb j,0,none⟩)),.int .u64 p]] w
  (Jk w (Xc D p) (D.n*64) (.int .i64 0) (.int .i64 11)):=by
 have H:=hid h;clear h
 go_enter func127,ntmps127
 go_wp2_with fail
 (with_reducible refine(H.out.alloc _).read.mono ?_)
 rintro e w1 ⟨hb,⟨hok,cb,rfl,_,hc⟩ | ⟨hbad,rfl⟩⟩
 ·have HB:=hid hb;have HO:=hid hok;clear hb hok hc
  go_wp2_with fail
  go_ret
  exact⟨We (Below.refl _ _) HB.out (Below.refl _ _),.inl ⟨HO.out,rfl⟩⟩
 ·have HB:=hid hb;have HO:=hid hbad;clear hb hbad
  go_wp2_with fail
  go_ret
  exact⟨We (Below.refl _ _) HB.out (Below.refl _ _),.inr ⟨HO.out,rfl⟩⟩
def Bb(W:Nat->Int)(k:Int):Value:=
 if Jt W k (Zd W)then .tuple #[.int .u64 (W (16+(Zd W).getD (findIdx W k (Zd W)) 0)),.int .i64 0]else .tuple #[.int .u64 0,.int .i64 5]
theorem Qsg(W:Nat->Int)(k:Int)(l:List Nat)(h:Jt W k l=true):∃ s,l[findIdx W k l]? = some s/\W (4+s)=k:=by
 unfold Jt at h
 split at h
 ·rename_i s hs;exact⟨s,hs,by simpa using h⟩
 ·cases h
theorem Bc(h:Yw w v own D j p)(k:Int):Calls prog 178 #[.agg #[.iface 40 (.pointer (some ⟨v.tb j,0,none⟩)),.int .u64 p],.int .u64 k] w
  (Jk w (Xc D p) (D.n*64) (Bb (Xc D p) k) (.tuple #[.int .u64 0,.int .i64 11])):=by
 have H:=hid h;clear h
 go_enter func178,ntmps178
 go_wp2_with fail
 (with_reducible refine(H.out.alloc _).read.mono ?_)
 rintro e w1 ⟨hb,⟨hok,cb,rfl,_,hc⟩ | ⟨hbad,rfl⟩⟩
 ·have HB:=hid hb;have HO:=hid hok;have HC:Hid (Xy w1 cb (Xc D p) (Zd (Xc D p)) ((Xc D p 0).toNat/4503599627370496)):=hc;clear hb hok hc
  go_wp2_with fail
  (with_reducible refine(Iu HC.out k).mono ?_)
  rintro e w2 ⟨rfl,q2⟩;have HC2:=hid (HC.out.qt q2);have Q2:=hid q2;clear q2
  have hf:Jt (Xc D p) k (Zd (Xc D p))=true\/Jt (Xc D p) k (Zd (Xc D p))=false:=by cases Jt (Xc D p) k (Zd (Xc D p)) <;> simp
  rcases hf with hf | hf
  ·obtain⟨s,hs,_⟩:=Qsg _ _ _ hf
   have hg:Bb (Xc D p) k = .tuple #[.int .u64 (Xc D p (16+s)),.int .i64 0]:=by unfold Bb;rw[if_pos hf];simp[List.getD,hs]
   have HV:=hid (Qd6 HC2.out _ s hs);have HG:=hid hg;rw[hf];clear hf hs hg;go_wp2_with fail
   (with_reducible refine HV.out.mono ?_)
   rintro e w3 ⟨rfl,q3⟩;have Q3:=hid (Q2.out.trans q3);clear q3
   go_wp2_with fail
   go_ret2
   exact⟨We (Below.refl _ _) HB.out Q3.out.below,.inl ⟨HO.out,by rw[HG.out];rfl⟩⟩
  ·have hg:Bb (Xc D p) k = .tuple #[.int .u64 0,.int .i64 5]:=by unfold Bb;rw[if_neg (by simp[hf])]
   have HG:=hid hg;rw[hf];clear hf hg;go_wp2_with fail
   go_ret2
   exact⟨We (Below.refl _ _) HB.out Q2.out.below,.inl ⟨HO.out,by rw[HG.out];rfl⟩⟩
 ·have HB:=hid hb;have HO:=hid hbad;clear hb hbad
  go_wp2_with fail
  go_ret2
  exact⟨We (Below.refl _ _) HB.out (Below.refl _ _),.inr ⟨HO.out,rfl⟩⟩
end
end
end Go.Proofs.YtlhchkajjpefmaaGreatDoor
