/- Lemmas and walks, part 18: each theorem says what it proves; no condition beside its own. -/
import Derived.Test.YtlhchkajjpefmaaGreatDoorK17
set_option maxHeartbeats 16000000
set_option maxRecDepth 100000
namespace Go.Proofs.YtlhchkajjpefmaaGreatDoor
open Lib(hid)
open Go.RowKit Go.Proofs.Tryz
section
def Qs8(o:Nat):Nat:=o-o%64
def Qxk(off:Nat)(x:Int):List (Nat×Nat×Int) := [(1,off,x),(2,off,0),(3,0,0)]
def Qdl(W:Nat->Int)(off:Nat)(key value:Int)(i s:Nat):List (Nat×Nat×Int):=
 [(1,off+8*(4+s),key),(1,off+8*(16+s),value),(2,Qs8 (off+8*(4+s)),0)] ++
   (if Qs8 (off+8*(16+s))=Qs8 (off+8*(4+s))then []else [(2,Qs8 (off+8*(16+s)),0)]) ++ [(3,0,0)] ++
   Qxk off (Qo3 ((Zd W).take i++s::(Zd W).drop i) ((W 0).toNat/4503599627370496+1):Nat)
def Pw(w:World)(l:List (Nat×Nat×Int))(e:Nat)(r:Ending)(w':World):Prop:=
 ∃ pv,r = .returned (.tuple #[pv,.int .i64 e])/\Qj w' 73 3 pv l.length (Qd l)/\∀ g,pv.ownBlock=some g->w.heap.size<=g
section
variable{w:World}{v:DV}{own:Nat->Option Qp}{D:Dev}{j p:Nat}
theorem Xy.below{w1 w2:World}{cb:Nat}{W:Nat->Int}{slots:List Nat}{ch:Nat}(h:Xy w1 cb W slots ch)(hb:Below w1.heap.size w1 w2):Xy w2 cb W slots ch:=
 ⟨fun i hi=>Zj hb (h.words i hi),by obtain⟨sv,h1,h2⟩:=h.sl;exact⟨sv,Zj hb h1,h2.below hb⟩,Zj hb h.ch,h.lt12,h.len,
  by obtain⟨c,hc⟩:=h.ty;exact⟨c,hc.below hb⟩,fun sv hsv g hg=>by
   obtain⟨c,hc⟩:=h.ty;rw[hb.cell (p:=⟨cb,28,none⟩) hc.lt]at hsv;obtain⟨c2,hc2⟩:=h.ty2 sv hsv g hg;exact⟨c2,hc2.below hb⟩⟩
structure Qbz(w:World)(v:DV)(j p cb:Nat)(W:Nat->Int)(w1:World):Prop where
 cont:Xy w1 cb W (Zd W) ((W 0).toNat/4503599627370496)
 l0:w1.cell? ⟨w.heap.size,0,none⟩=some (.iface 40 (.pointer (some ⟨v.tb j,0,none⟩)))
 l1:w1.cell? ⟨w.heap.size,1,none⟩=some (.int .u64 p)
 bel:Below w.heap.size w w1
 lt:w.heap.size<w1.heap.size
theorem Qbz.next{cb:Nat}{W:Nat->Int}{w1 w2:World}(h:Qbz w v j p cb W w1)(hb:Below w1.heap.size w1 w2):Qbz w v j p cb W w2:=
 ⟨h.cont.below hb,Zj hb h.l0,Zj hb h.l1,h.bel.trans (hb.mono h.bel.size),Nat.lt_of_lt_of_le h.lt hb.size⟩
theorem Em{w:World}{v:DV}{j:Nat}(p c s:Nat)(ci:Int)(hci:ci=(c:Nat))(hp:p<18446744073709551616)(hs:s<12)(hc:c<=16) :
  Calls prog 171 #[.agg #[.iface 40 (.pointer (some ⟨v.tb j,0,none⟩)),.int .u64 p],.int .i64 (ci+s)] w fun r w'=>r = .returned (.int .u64 (Qo p+8*(c+s):Nat))/\w.alloc (.cells #[.iface 40 (.pointer (some ⟨v.tb j,0,none⟩)),.int .u64 p] 154)=w':=by
 have e:ci+s=((c+s:Nat):Int):=by omega
 rw[e];exact Nl _ p (c+s) hp (by omega) (.inr ⟨_,_,rfl⟩)
theorem Qik(w:World)(o1 o2:Obj):Below w.heap.size w ((w.alloc o1).alloc o2).drew:=
 (Qa w o1).trans ((Xn _ o2).mono (by simp))
def Q5x(w:World)(v:DV)(j p cb:Nat)(W:Nat->Int)(s:Nat)(a b:Value)(wx:World):Prop:=
 a = .int .u64 (Qo p+8*(4+s):Nat)/\b = .int .u64 (Qo p+8*(16+s):Nat)/\Qbz w v j p cb W wx
def PAt(wc:World)(l:List (Nat×Nat×Int))(pv:Value)(wx:World):Prop:=
 Qj wx 73 3 pv l.length (Qd l)/\Below wc.heap.size wc wx/\∀ g,pv.ownBlock=some g->wc.heap.size<=g
theorem PAt.start(wc:World)(l:List (Nat×Nat×Int))(hl:l.length<1000) :
  PAt wc l (.slice (some ⟨wc.heap.size,0,none⟩) l.length l.length) (wc.alloc (.cells (Qd l).toArray 73)):=by
 have h:=Qj.new wc (Qd l).toArray 73 3 l.length l.length (by simp[Xv]) (Nat.le_refl _) (by unfold maxLen;omega);rw[List.take_of_length_le (by simp[Xv])]at h;exact⟨h,Qa _ _,fun g hg=>by simp[Value.ownBlock]at hg;omega⟩
theorem Qj.below{w w':World}{e:TypeId}{size n:Nat}{v:Value}{xs:List Value}(h:Qj w e size v n xs)(hb:Below w.heap.size w w'):Qj w' e size v n xs:=h.kept (fun k hk=>hb.block k (h.lt k hk))
theorem PAt.keep2{w4 w6 w6' w7:World}{l:List (Nat×Nat×Int)}{pv:Value}(h:PAt w4 l pv w6)(h2:Below w6'.heap.size w6' w7)(h1:Below w6.heap.size w6 w6'):PAt w4 l pv w7:=by
 have hb:=h1.trans (h2.mono h1.size);exact⟨h.1.below hb,h.2.1.trans (hb.mono h.2.1.size),h.2.2⟩
theorem Pp(w:World)(o:Obj):Below w.heap.size w (w.drew.alloc o):=(Below.refl _ _).drew.alloc (Nat.le_refl _) _
theorem Qbz.four{cb:Nat}{W:Nat->Int}{w4 wx:World}{sv:Value}(h:Qbz w v j p cb W w4)(h28:w4.cell? ⟨cb,28,none⟩=some sv)(hb:Below w4.heap.size w4 wx) :
  wx.cell? ⟨w.heap.size,0,none⟩=some (.iface 40 (.pointer (some ⟨v.tb j,0,none⟩)))/\wx.cell? ⟨w.heap.size,1,none⟩=some (.int .u64 p)/\wx.cell? ⟨cb,28,none⟩=some sv/\wx.cell? ⟨cb,29,none⟩=some (.int .u64 ((W 0).toNat/4503599627370496:Nat)):=
 ⟨Zj hb h.l0,Zj hb h.l1,Zj hb h28,Zj hb h.cont.ch⟩
theorem Qfq{w:World}{v:DV}{j:Nat}(p:Nat)(hp:p<18446744073709551616) :
  Calls prog 171 #[.agg #[.iface 40 (.pointer (some ⟨v.tb j,0,none⟩)),.int .u64 p],.int .i64 0] w fun r w'=>r = .returned (.int .u64 (Qo p:Nat))/\w.alloc (.cells #[.iface 40 (.pointer (some ⟨v.tb j,0,none⟩)),.int .u64 p] 154)=w':=
 Nl _ p 0 hp (by omega) (.inr ⟨_,_,rfl⟩)
theorem Qj3{w:World}(nv:Value)(slots:List Nat)(i s ch:Nat)(hl:slots.length<12)(hs:s<12)(h12:∀ s∈slots,s<12)(hch:ch<4096)
  (h:Qj w 3 1 nv (slots.take i++s::slots.drop i).length (Zi (slots.take i++s::slots.drop i))) :
  Calls prog 174 #[nv,.int .u64 ((ch:Int)+1)] w fun r w'=>r = .returned (.int .u64 (Qo3 (slots.take i++s::slots.drop i) (ch+1):Nat))/\w=w':=by
 rw[show(ch:Int)+1=((ch+1:Nat):Int)by omega];refine Qdf nv _ (ch+1) h.rd (by simp;omega) (fun t ht => ?_) (by omega)
 rcases List.mem_append.1 ht with h1 | h1
 ·have:=h12 t (List.mem_of_mem_take h1);omega
 ·rcases List.mem_cons.1 h1 with h1 | h1
  ·omega
  ·have:=h12 t (List.mem_of_mem_drop h1);omega
theorem Qrw{w4 w8:World}(pv:Value)(l:List (Nat×Nat×Int))(off:Nat)(x:Int)(hl:l.length<=100000)(h:PAt w4 l pv w8) :
  Calls prog 170 #[pv,.int .u64 off,.int .u64 x] w8 fun r w9=>∃ v9,r = .returned v9/\PAt w4 (l++Qxk off x) v9 w9:=by
 refine(Qis pv l off x h.1 hl).mono ?_
 rintro e w9 ⟨v9,rfl,o,ha,hu⟩;refine⟨v9,rfl,o,⟨hu.os.trans h.2.1.os,hu.tape.trans h.2.1.tape,hu.output.trans h.2.1.output,Nat.le_trans h.2.1.size hu.size,fun k hk => ?_⟩,fun g hg => ?_⟩
 ·rw[hu.block k (Nat.lt_of_lt_of_le hk h.2.1.size) (fun hk2=>by have:=h.2.2 k hk2;omega)];exact h.2.1.block k hk
 ·rcases ha with ha | ⟨g2,ha,hg2⟩
  ·rw[Qh,ha,<- Qh]at hg;exact h.2.2 g hg
  ·rw[Qh,ha]at hg;cases hg;exact Nat.le_trans h.2.1.size hg2
theorem Qye{w4 w9:World}{v9:Value}{l l2:List (Nat×Nat×Int)}(hb:Below w.heap.size w w4)(h:PAt w4 l v9 w9)(he:l=l2):Below w.heap.size w w9/\Pw w l2 0 (.returned (.tuple #[v9,.int .i64 0])) w9:=by
 subst he;exact⟨hb.trans (h.2.1.mono hb.size),v9,rfl,h.1,fun g hg=>Nat.le_trans hb.size (h.2.2 g hg)⟩
theorem Cb(h:Yw w v own D j p)(key value:Int)(hok:Xk (Xc D p) (D.n*64))(hnr:¬ (Xc D p 3=1/\Xc D p 2<=key))(hnf:Jt (Xc D p) key (Zd (Xc D p))=false)
  (hlen:(Zd (Xc D p)).length<12):Calls prog 75 #[.agg #[.iface 40 (.pointer (some ⟨v.tb j,0,none⟩)),.int .u64 p],.int .u64 key,.int .u64 value] w
  fun r w'=>Below w.heap.size w w'/\Pw w (Qdl (Xc D p) (Qo p) key value (findIdx (Xc D p) key (Zd (Xc D p))) (Ko (Zd (Xc D p)))) 0 r w':=by
 have H:=hid h;clear h
 have hp:=H.out.hp;have hrd:=(H.out.alloc (.cells #[.iface 40 (.pointer (some ⟨v.tb j,0,none⟩)),.int .u64 p] 154)).read;have hx0:(Xc D p 0).toNat<18446744073709551616:=by have:=H.out.hW 0 (by omega);omega
 have ho:Qo p<=34359738360:=by unfold Qo;omega
 generalize Xc D p=W at *
 have HR:=hid hrd;have HO:=hid hok;have HNR:=hid hnr;have HNF:=hid hnf;clear hrd hok hnr hnf
 have hn12:(((Zd W).length:Int)==12)=false:=by simp;omega
 go_enter func75,ntmps75
 go_wp2_with fail
 (with_reducible refine HR.out.mono ?_)
 rintro e w1 ⟨hb,⟨_,cb,rfl,hcb,hc⟩ | ⟨hbad,rfl⟩⟩
 ·have A1:Qbz w v j p cb W w1:=⟨hc,Zj hb ((Blk.new w _ 154).cell rfl),Zj hb ((Blk.new w _ 154).cell rfl),(Qa w _).trans (hb.mono (by simp)),by have:=hb.size;simp at this;omega⟩
  have HA:=hid A1;have c3:=hc.words 3 (by omega);have c2:=hc.words 2 (by omega)
  clear hb hc A1 HR;have hcase:(W 3==1)=true/\¬ W 2<=key\/(W 3==1)=false:=by
   by_cases h:W 3=1
   ·exact .inl ⟨by simp[h],fun h'=>HNR.out ⟨h,h'⟩⟩
   ·exact .inr (by simp[h])
  rcases hcase with ⟨e3,e2⟩ | e3
  all_goals
   go_wp2_with fail
   (with_reducible refine(Iu HA.out.cont key).mono ?_)
   rintro e w2 ⟨rfl,q2⟩;have HA2:=hid (HA.out.next q2.below);rw[HNF.out];clear e3 c3 c2 q2 HA;have l0:=HA2.out.l0;have l1:=HA2.out.l1
   obtain⟨sv,c28,hsv⟩:=HA2.out.cont.sl;obtain⟨sa,sc,rfl⟩:∃ a c,sv = .slice a (Zd W).length c:=by obtain⟨_,a,c,e,_⟩:=hsv;exact⟨a,c,e⟩
   have HSV:=hid hsv;clear hsv
   have hun:=Qk4 (w:=w2) _ _ HSV.out HA2.out.cont.lt12 hlen;have HU:=hid hun;clear hun
   go_wp2_with fail
   (with_reducible refine HU.out.mono ?_)
   rintro e w3 ⟨rfl,hs12,hsn,hb3⟩;have HA3:=hid (HA2.out.next hb3);clear HU hb3 l0 l1 c28 HSV HA2
   generalize hsd:Ko (Zd W)=s at *
   generalize hidx:findIdx W key (Zd W)=idx at *
   have Hsd:=hid hsd;have Hid2:=hid hidx;clear hsd hidx
   have l0:=HA3.out.l0;have l1:=HA3.out.l1
   go_wp2_with fail
   have y1:IntKind.i64.wrap (4+(s:Int))=4+(s:Int):=IntWalk.i64_in _ (by omega);have y2:IntKind.i64.wrap (16+(s:Int))=16+(s:Int):=IntWalk.i64_in _ (by omega);have L4:=hid (fun wx=>Em (w:=wx) (v:=v) (j:=j) p 4 s 4 rfl hp hs12 (by omega));have L16:=hid (fun wx=>Em (w:=wx) (v:=v) (j:=j) p 16 s 16 rfl hp hs12 (by omega));have lt3:=HA3.out.lt;have ne3:w.heap.size≠w3.heap.size:=by omega
   go_cut [13,14] (Q5x w v j p cb W s)
   case first=>
    go_region_with (first | (go_at_call 171;(with_reducible refine(L4.out _).mono ?_);rintro e w' ⟨rfl,rfl⟩) | (go_at_call 171;(with_reducible refine(L16.out _).mono ?_);rintro e w' ⟨rfl,rfl⟩))
    all_goals go_wp2_with fail
    all_goals go_meet
    all_goals exact⟨rfl,rfl,HA3.out.next (Qik _ _ _)⟩
   case rest=>
    obtain⟨rfl,rfl,hA4⟩:=hcut;clear l0 l1 HA3 L4 L16 y1 y2;have HA4:=hid hA4;clear hA4 lt3 ne3
    obtain⟨w4,hw4⟩:∃ x,x=wc:=⟨_,rfl⟩;subst hw4
    generalize hkd:Qo p+8*(4+s)=k at *
    generalize hvd:Qo p+8*(16+s)=vv at *
    have hkb:k<18446744073709551616:=by omega
    have hvb:vv<18446744073709551616:=by omega
    have Hkd:=hid hkd;have Hvd:=hid hvd;clear hkd hvd
    have hcase2:((vv-vv%64:Nat):Int)=((k-k%64:Nat):Int)\/((vv-vv%64:Nat):Int)≠((k-k%64:Nat):Int):=by omega
    generalize hlk:k-k%64=lk at *
    generalize hlv:vv-vv%64=lv at *
    have LK:=hid (fun wx=>En (w:=wx) k hkb);have LV:=hid (fun wx=>En (w:=wx) vv hvb);rw[hlk]at LK;rw[hlv]at LV
    have Hlk:=hid hlk;have Hlv:=hid hlv;clear hlk hlv
    obtain⟨i0,hi0,hz0,hz1,hz2⟩:=info_parts Xs;have I:=hid (And.intro hi0 (And.intro hz0 (And.intro hz1 hz2)));clear hi0 hz0 hz1 hz2
    go_upto_region 13 with fail
    go_cut [15] (PAt w4 [(1,k,key),(1,vv,value),(2,lk,0)])
    case first=>
     go_wp2_with (go_at_call 173;(with_reducible refine(LK.out _).mono ?_);rintro e w' ⟨rfl,rfl⟩)
     go_meet
     exact PAt.start _ [(1,k,key),(1,vv,value),(2,lk,0)] (by simp)
    case rest=>
    obtain⟨pa,pc,rfl⟩:=hcut.1.slice;have O1:=hid hcut;clear hcut
    go_upto_if 91 with (first | (go_at_call 173;(with_reducible refine(LK.out _).mono ?_);rintro e w' ⟨rfl,rfl⟩) | (go_at_call 173;(with_reducible refine(LV.out _).mono ?_);rintro e w' ⟨rfl,rfl⟩))
    go_cut [15] (PAt w4 ([(1,k,key),(1,vv,value),(2,lk,0)]++if lv=lk then []else [(2,lv,0)]))
    case first=>
     rcases hcase2 with hc2 | hc2
     ·go_wp2_with fail
      go_meet
      rw[if_pos (by omega),List.append_nil];exact O1.out
     ·go_wp2_with (first | (go_at_call 173;(with_reducible refine(LV.out _).mono ?_);rintro e w' ⟨rfl,rfl⟩) | (at_builtin;refine Qc _ rfl _ _ 37 rfl 73 i0 _ 3 24 underlying37 I.out.1 I.out.2.1 I.out.2.2.1 I.out.2.2.2 rfl (by decide) _ 3 (Qd [(1,k,key),(1,vv,value),(2,lk,0)]) rfl (by exact O1.out.1.alloc _) _ 1 (Qd [(2,lv,0)]) rfl (by exact Ql.newAt _ _ _ 3 1 _ rfl rfl) (Zn _) (by unfold maxLen;omega) (by omega) ?_))
      intro v1 w1 o1 g1 b1 n1;have O2:=hid (And.intro o1 (Vo O1.out.2 (Qa _ _) g1 b1 (by have:=O1.out.2.1.size;simp;omega)));clear o1 g1 b1 n1
      go_wp2_with fail
      go_meet
      rw[if_neg (by omega)];exact O2.out
    case rest=>
    clear hcase2 LK LV O1
    generalize hL : [(1,k,key),(1,vv,value),(2,lk,0)]++(if lv=lk then []else [(2,lv,0)])=L at *
    have hLl:L.length<=4:=by rw[<- hL];split <;> simp
    have HL:=hid hL;clear hL
    obtain⟨pa2,pc2,hpv⟩:=hcut.1.slice;subst hpv;have O2:=hid hcut;clear hcut
    go_upto_region 16 with fail
    go_cut [15] (PAt w4 (L ++ [(3,0,0)]))
    case first=>
     go_wp2_with (at_builtin;refine Qc _ rfl _ _ 37 rfl 73 i0 _ 3 24 underlying37 I.out.1 I.out.2.1 I.out.2.2.1 I.out.2.2.2 rfl (by decide) _ L.length (Qd L) rfl (by exact O2.out.1.alloc _) _ 1 (Qd [(3,0,0)]) rfl (by exact Ql.newAt _ _ _ 3 1 _ rfl rfl) (Zn _) (by unfold maxLen;omega) (by omega) ?_)
     intro v1 w1 o1 g1 b1 n1;have O3:=hid (And.intro o1 (Vo O2.out.2 (Qa _ _) g1 b1 (by have:=O2.out.2.1.size;simp;omega)));clear o1 g1 b1 n1
     go_wp2_with fail
     go_meet
     exact⟨by rw[Zv,List.length_append];exact O3.out.1,O3.out.2⟩
    case rest=>
    clear O2;obtain⟨pa3,pc3,hpv⟩:=hcut.1.slice;subst hpv;have O3:=hid hcut;clear hcut
    go_upto_region 17 with fail
    obtain⟨w6,hw6⟩:∃ x,x=wc:=⟨_,rfl⟩;subst hw6;obtain⟨sv,c28,hsv⟩:=HA4.out.cont.sl;obtain⟨sa,sc,rfl⟩:∃ a c,sv = .slice a (Zd W).length c:=by obtain⟨_,a,c,e,_⟩:=hsv;exact⟨a,c,e⟩
    have HSV:=hid (hsv.below (O3.out.2.1));clear hsv
    have hlt12:=HA4.out.cont.lt12;have hidx:idx<=(Zd W).length:=by rw[<- Hid2.out];exact Ei _ _ _
    have K4:=hid (fun wx hx=>Qbz.four HA4.out c28 (wx:=wx) hx);have hbase:=HA4.out.bel
    generalize hch:(W 0).toNat/4503599627370496=ch at *
    have hch4:ch<4096:=by omega
    have y1:IntKind.u64.wrap ((ch:Int)+1)=(ch:Int)+1:=by rw[IntKind.wrap_u64];omega
    have ORD:=hid (fun wx nv=>Qj3 (w:=wx) nv (Zd W) idx s ch hlen hs12 hlt12 hch4);have CM:=hid (fun wx=>Qrw (w4:=w4) (w8:=wx) (.slice pa3 (L ++ [(3,0,0)]).length pc3) (L ++ [(3,0,0)]) (Qo p) (Qo3 ((Zd W).take idx++s::(Zd W).drop idx) (ch+1):Nat) (by simp;omega));have L0:=hid (fun wx=>Qfq (w:=wx) (v:=v) (j:=j) p hp);have Hch:=hid hch;have HX:=hid (And.intro hx0 (And.intro hch4 hlt12));have HB:=hid hbase;have HI:=hid hidx
    clear hch hx0 hch4 hlt12 hbase hidx c28 HA4
    generalize hnl:(L ++ [(3,0,0)]).length=nl at *
    have Hnl:=hid hnl;clear hnl
    go_region_held3 (fun wx=>wx.cell? ⟨w.heap.size,0,none⟩=some (.iface 40 (.pointer (some ⟨v.tb j,0,none⟩)))/\wx.cell? ⟨w.heap.size,1,none⟩=some (.int .u64 p)/\wx.cell? ⟨cb,28,none⟩=some (.slice sa (Zd W).length sc)/\wx.cell? ⟨cb,29,none⟩=some (.int .u64 ch))
     (first | exact K4.out _ P9.out.2.1 | exact K4.out _ P7.out.2.1 | exact K4.out _ (O3.out.2.1.drew) | exact K4.out _ ((O3.out.2.1.alloc O3.out.2.1.size _).drew) | exact K4.out _ (O3.out.2.1.drew.alloc O3.out.2.1.size _))
     (first | (go_at_call 171;(with_reducible refine(L0.out _).mono ?_);rintro e w' ⟨rfl,rfl⟩) | (go_at_call 175;(with_reducible refine(Qcz _ (Zd W) idx s (by first | exact(HSV.out.alloc _).drew | exact HSV.out.drew.alloc _) HI.out (by omega)).mono ?_);rintro e w7 ⟨nv,rfl,n1,n2,n3⟩;have P7:=hid (PAt.keep2 O3.out n3 (by first | exact Xn _ _ | exact Pp _ _));have N:=hid n1;clear n1 n2 n3) | (go_at_call 174;(with_reducible refine(ORD.out _ _ N.out).mono ?_);rintro e w' ⟨rfl,rfl⟩) | (go_at_call 170;(with_reducible refine(CM.out _ (by exact P7.out)).mono ?_);rintro e w9 ⟨v9,rfl,q9⟩;have P9:=hid q9;clear q9))
    all_goals go_wp2_with fail
    go_ret2
    exact Qye HB.out P9.out (by rw[<- HL.out,<- Hlk.out,<- Hlv.out,<- Hkd.out,<- Hvd.out,<- Hch.out,<- Hid2.out,<- Hsd.out];rfl)
 ·exact absurd HO.out hbad
end
end

section
namespace Cu
variable{D:Dev}{n x:Nat}{C:Nat->Int}
theorem sync_cur(D:Dev)(j i:Nat):(D.sync j).cur i=D.cur i:=by
 show Qu ((D.hist (i/8)).drop _) (Qu ((D.hist (i/8)).take _) (D.pers i) i) i=Qu (D.hist (i/8)) (D.pers i) i
 rw[<- Jc,List.take_append_drop]
end Cu
section
variable{w:World}{v:DV}{own:Nat->Option Qp}{D:Dev}
end
end

section
section
variable{w:World}
end
end

section
def Qeg(m:Value):Prop:=m = .nilIface\/∃ a,m = .iface 40 (.pointer (some a))
section
variable{w:World}{v:DV}{own:Nat->Option Qp}{D:Dev}{j p:Nat}
end
end

section
open Go.RowKit Go.Shelf
attribute [local go_sem] Oper.semAt_some
def KpT(W W':World):Prop:=W.heap.size<=W'.heap.size/\∀ (k:Nat) (c:Array Value) (t:TypeId) (f:Nat×Nat),W.heap[k]? = some (.cells c t f)->t≠194->t≠186->W'.heap[k]? = some (.cells c t f)
theorem KpT.trans{A B C:World}(h:KpT A B)(k:KpT B C):KpT A C:=⟨Nat.le_trans h.1 k.1,fun i c t f hi h1 h2=>k.2 i c t f (h.2 i c t f hi h1 h2) h1 h2⟩
theorem Q6w{w:World}(W:World)(l:Nat)(o o':Obj)(_:w.heap.size<=l)(h:W.heap[l]? = some o)(hc:o.isCells=false)(_:o.isWalk=false):KpT W (W.putObj l o'):=by
 have hg:=grownBy_putObj' W l o';refine⟨hg.size,fun k c t f hk _ _ => ?_⟩
 rw[hg.block k (lt_of_block hk) (fun e => ?_)]
 ·exact hk
 ·cases e;rw[h]at hk;cases hk;cases hc
theorem KpT.blk{W W':World}(h:KpT W W'){b:Nat}{c:Array Value}{t:TypeId}(hb:Blk W b c t)(h1:t≠194)(h2:t≠186):Blk W' b c t:=h.2 b c t _ hb h1 h2
theorem KpT.cell{W W':World}(h:KpT W W'){b o:Nat}{c:Array Value}{t:TypeId}{u:Value}(hb:Blk W b c t)(h1:t≠194)(h2:t≠186)(hu:W.cell? ⟨b,o,none⟩=some u):W'.cell? ⟨b,o,none⟩=some u:=
 (World.cell?_of_block (w:=W) (a:=⟨b,o,none⟩) ((h.blk hb h1 h2).trans hb.symm)).trans hu
theorem Xy.kp{W W':World}{cb:Nat}{Wd:Nat->Int}{slots:List Nat}{ch:Nat}(h:Xy W cb Wd slots ch)(hk:KpT W W'):Xy W' cb Wd slots ch:=by
 obtain⟨c,hc⟩:=h.ty;have hcell:∀ o u,W.cell? ⟨cb,o,none⟩=some u->W'.cell? ⟨cb,o,none⟩=some u:=fun o u hu=>hk.cell hc (by decide) (by decide) hu
 obtain⟨sv,h1,h2⟩:=h.sl;have h3:=h.ty2 sv h1;refine⟨fun i hi=>hcell _ _ (h.words i hi),⟨sv,hcell _ _ h1,h2.kept (fun k hk' _ => ?_)⟩,hcell _ _ h.ch,h.lt12,h.len,⟨c,hk.blk hc (by decide) (by decide)⟩,fun sv' hsv g hg => ?_⟩
 ·obtain⟨c',hc'⟩:=h3 k hk'
  exact(hk.blk hc' (by decide) (by decide)).trans hc'.symm
 ·rw[hcell _ _ h1]at hsv;cases hsv
  obtain⟨c',hc'⟩:=h3 g hg;exact⟨c',hk.blk hc' (by decide) (by decide)⟩
def De(W:Nat->Int)(slots:List Nat):List (Int×Int):=slots.map fun s=>(W (4+s),W (16+s))
theorem Qmt(W:Nat->Int)(slots:List Nat)(i s:Nat)(h:slots[i]? = some s):(De W slots)[i]? = some (W (4+s),W (16+s)):=by simp[De,h]
abbrev Q4h(x:Int×Int):Array Value:=#[.int .u64 x.1,.int .u64 x.2]
def Du(W:World)(m:Value)(p:Nat)(from':Int)(es:List (Int×Int)):Prop:=
 ∀ W',Below W.heap.size W W'->Calls prog 168 #[.agg #[m,.int .u64 p]] W' fun r w''=>Below W'.heap.size W' w'' /\
  ((∃ e:Int,e≠0/\r = .returned (.tuple #[.pointer none,.int .i64 e])/\es = []) \/
   ∃ cb Wd slots ch,r = .returned (.tuple #[.pointer (some ⟨cb,0,none⟩),.int .i64 0])/\Xy w'' cb Wd slots ch/\es=(De Wd slots).drop (findIdx Wd from' slots))
theorem Du.below{W W1:World}{m:Value}{p:Nat}{from':Int}{es:List (Int×Int)}(h:Du W m p from' es)(hb:Below W.heap.size W W1):Du W1 m p from' es:=fun w' hw=>h w' (hb.trans (hw.mono hb.size))
theorem Qad{W W':World}(h:Below W.heap.size W W'):W.grownBy W' none:=⟨h.os,h.tape,h.output,h.size,fun k hk _=>h.block k hk⟩
theorem Vh{β:Type}{B:Nat}{J:β->World->Prop}(hJ:AbidesFrom B J){s:β}{W W':World}(h:J s W)(hb:Below W.heap.size W W'):J s W':=hJ s W W' none h (Qad hb) (fun r e=>by cases e)
theorem Qwf(n:Nat)(hn:1<=n)(l bl bf:Nat)(m:Value)(p:Nat)(from':Int)(es:List (Int×Int))(J Jx:List (Int×Int)->World->Prop)(W:World)(hJ:AbidesFrom W.heap.size J)(hm:Qeg m)
  (hY:∀ pre x W1,J pre W1->pre.length<es.length->YieldAt Fence.wide (n-1) prog l (Q4h x) W1 fun e W'=>(e = .returned (.bool true)/\J (pre ++ [x]) W'/\KpT W1 W')\/(e = .returned (.bool false)/\Jx (pre ++ [x]) W'))
  (hbl:Blk W bl #[m,.int .u64 p] 154) (hbf:Blk W bf #[.int .u64 from'] 31) (hR:Du W m p from' es) (h0:J [] W) :
  CallsIn Fence.wide n prog 194 (#[.func (.yield l) #[] #[]] ++ #[.pointer (some ⟨bl,0,none⟩),.pointer (some ⟨bf,0,none⟩)]) W fun e W'=>(∃ v,e = .returned v)/\((∃ xs,xs=es/\J xs W')\/(∃ pre,pre <+: es/\Jx pre W')):=by
 have hl0:W.cell? ⟨bl,0,none⟩=some m:=hbl.cell rfl;have hl1:W.cell? ⟨bl,1,none⟩=some (.int .u64 p):=hbl.cell rfl;have hf0:W.cell? ⟨bf,0,none⟩=some (.int .u64 from'):=hbf.cell rfl;have HR:=hid (hR W (Below.refl _ _));have HY:=hid hY;have HJ:=hid hJ;have H0:=hid h0;have HF:=hid hbf
 clear hY hJ h0 hbl hbf hR
 rcases hm with rfl | ⟨a,rfl⟩
 all_goals
  refine callsIn_of_wp func194 rfl trivial ?_ rfl
  simp only[ntmps194,List.size_toArray,List.length_cons,List.length_nil,Nat.reduceAdd,Nat.reduceSub,Array.replicate_succ,Array.replicate_zero,List.push_toArray,List.append_toArray,List.nil_append,List.cons_append]
  gi_wp2
  refine⟨trivial,?_⟩
  (with_reducible refine(callsIn_wide.2 HR.out).mono ?_)
  rintro r w1 ⟨hb,⟨e,he,rfl,rfl⟩ | ⟨cb,Wd,slots,ch,rfl,hc,he⟩⟩
  ·have hb1:(e != 0)=true:=by simpa using he
   have H1:=hid (Vh HJ.out H0.out hb);clear hb he
   gi_wp2
   refine bodyPost_ret (results_none rfl _ _ _) rfl ?_
   exact⟨⟨_,rfl⟩,.inl ⟨[],rfl,H1.out⟩⟩
  ·have hf1:=Zj hb hf0
   have H1:=hid (Vh HJ.out H0.out hb);have HC:=hid hc;have HE:=hid he
   have HB:=hid hb.size;clear hb hc he
   gi_wp2
   refine⟨trivial,?_⟩
   (with_reducible refine(callsIn_wide.2 (Iu HC.out from')).mono ?_)
   rintro r w2 ⟨rfl,q2⟩;have HC2:=hid (HC.out.qt q2);have H2:=hid (Vh HJ.out H1.out q2.below);have hidx:=Ei Wd from' slots;have h12:=HC.out.len;clear HC H1 q2 hf1
   generalize hix:findIdx Wd from' slots=idx at *
   have HIX:=hid hix;clear hix
   gi_wp2
   gi_loopw [6] (fun i wr=>∃ k:Nat,idx<=k/\k<=slots.length/\i = .int .i64 k/\Xy wr cb Wd slots ch/\J (es.take (k-idx)) wr) (fun i _=>slots.length-(intOf i).toNat)
   case atStart=>exact⟨idx,Nat.le_refl _,hidx,rfl,HC2.out,by rw[Nat.sub_self,List.take_zero];exact H2.out⟩
   case round=>
    obtain⟨k,hk1,hk2,rfl,hc,hj⟩:=hrel;obtain⟨sv,c28,hsv⟩:=hc.sl;obtain⟨sa,sc,rfl⟩:∃ a c,sv = .slice a slots.length c:=by obtain⟨_,a,c,e,_⟩:=hsv;exact⟨a,c,e⟩
    have HC3:=hid hc;have H3:=hid hj
    clear hsv hc hj
    by_cases hlt:k<slots.length
    ·obtain⟨s,hs⟩:∃ s,slots[k]? = some s:=⟨_,List.getElem?_eq_getElem hlt⟩
     have hes:es[k-idx]? = some (Wd (4+s),Wd (16+s)):=by
      rw[HE.out,List.getElem?_drop,show idx+(k-idx)=k by omega];exact Qmt Wd slots k s hs
     have hlen:(es.take (k-idx)).length<es.length:=by
      have:k-idx<es.length:=by
       rcases Nat.lt_or_ge (k-idx) es.length with h | h
       ·exact h
       ·rw[List.getElem?_eq_none h]at hes;cases hes
      rw[List.length_take];omega
     have HT:=hid (Fj es (k-idx) _ hes);have HK:=hid (fun wx (hx:Xy wx cb Wd slots ch)=>Qai hx k s hs);have HV:=hid (fun wx (hx:Xy wx cb Wd slots ch)=>Qd6 hx k s hs);have HYY:=hid (fun wx (hx:J (es.take (k-idx)) wx)=>HY.out (es.take (k-idx)) (Wd (4+s),Wd (16+s)) wx hx hlen);clear hes hs hlen
     gi_wp2
     refine⟨trivial,?_⟩
     (with_reducible refine(callsIn_wide.2 (HK.out _ HC3.out)).mono ?_)
     rintro r w3 ⟨rfl,q3⟩;have HC4:=hid (HC3.out.qt q3);have H4:=hid (Vh HJ.out H3.out q3.below)
     clear q3 c28 HC3 H3
     gi_wp2
     refine⟨trivial,?_⟩
     (with_reducible refine(callsIn_wide.2 (HV.out _ HC4.out)).mono ?_)
     rintro r w4 ⟨rfl,q4⟩;have HC5:=hid (HC4.out.qt q4);have H5:=hid (Vh HJ.out H4.out q4.below)
     clear q4 HC4 H4;obtain⟨fn,tmps,assign,body,hy,hR⟩:=HYY.out _ H5.out;have HRR:=hid hR
     dsimp only[Q4h]at hy
     clear hR
     gi_wp2
     refine HRR.out.mono ?_
     rintro e W3 (⟨rfl,hJ3,hk3⟩ | ⟨rfl,hJx3⟩)
     ·have HC6:=hid (HC5.out.kp hk3);have H6:=hid hJ3
      clear hk3 hJ3 HRR hy
      gi_wp2
      go_roundw
      case rel=>exact⟨k+1,by omega,by omega,by go_num,HC6.out,by rw[show k+1-idx=k-idx+1 by omega,HT.out];exact H6.out⟩
      case measure=>simp[intOf];omega
     ·have H6:=hid hJx3
      clear hJx3 HRR hy
      gi_wp2
      refine bodyPost_ret (results_none rfl _ _ _) rfl ?_
      exact⟨⟨_,rfl⟩,.inr ⟨_,by rw[<- HT.out];exact List.take_prefix _ _,H6.out⟩⟩
    ·gi_wp2
     go_end0
     refine⟨⟨_,rfl⟩,.inl ⟨es,rfl,?_⟩⟩
     have:=H3.out;rw[List.take_of_length_le (by rw[HE.out];simp[De];omega)]at this;exact this
end

section
open Go.RowKit Go.Shelf
attribute [local go_sem] Oper.semAt_some
section
variable{w:World}
theorem Qwg{m:Value}(hm:Qeg m)(p:Nat)(from':Int):Calls prog 128 #[.agg #[m,.int .u64 p],.int .u64 from'] w fun e w'=>
  e = .returned (.func (.func 194) #[] #[.pointer (some ⟨w.heap.size,0,none⟩),.pointer (some ⟨w.heap.size+1,0,none⟩)])/\w'=(w.alloc (.cells #[m,.int .u64 p] 154)).alloc (.cells #[.int .u64 from'] 31):=by
 rcases hm with rfl | ⟨a,rfl⟩
 all_goals
  go_enter func128,ntmps128
  go_wp2
  go_ret
  exact⟨rfl,rfl⟩
theorem Qlr(n:Nat)(hn:1<=n)(bl bf:Nat)(m:Value)(p:Nat)(from':Int)(es:List (Int×Int))(hm:Qeg m)(hbl:Blk w bl #[m,.int .u64 p] 154)(hbf:Blk w bf #[.int .u64 from'] 31)(hR:Du w m p from' es) :
  SeqStopsK Fence.wide n prog 194 #[.pointer (some ⟨bl,0,none⟩),.pointer (some ⟨bf,0,none⟩)] Q4h KpT (fun xs=>xs=es) (fun pre=>pre <+: es) es.length w:=fun l J Jx W hW hJ _ hY h0=>
 Qwf n hn l bl bf m p from' es J Jx W hJ hm hY (hbl.below hW) (hbf.below hW) (hR.below hW) h0
theorem Qji{W w1:World}{B base:Nat}{v v':Value}{k:Nat}{xs:List Value}{tmp:Array Value}(hv:Boxed W B 186 v)(hrow:W.ownsRow base 194 2 v k xs)(hg:(W.alloc (.cells tmp 194)).grownBy w1 v.ownBlock) :
  KpT W (w1.setCell ⟨B,0,none⟩ v'):=by
 refine⟨Nat.le_trans (by simp) (Nat.le_trans hg.size (by simp[World.setCell])),fun j c t f hj h1 h2 => ?_⟩
 have hlt:=lt_of_block hj;rw[Below.heap_setCell _ _ _ _ (fun e => ?_)]
 ·rw[hg.block j (by simp;omega) (fun e => ?_)]
  ·exact(Below.heap_alloc _ _ _ hlt).trans hj
  ·rcases hrow.2 with ⟨rfl,_⟩ | ⟨g,cap,cur,rfl,_,hgb,_⟩
   ·simp[Value.ownBlock]at e
   ·obtain rfl:j=g:=by simpa [Value.ownBlock]using e
    rw[hgb]at hj;cases hj;exact h1 rfl
 ·have e':j=B:=e
  subst e';have:=(show W.heap[j]? = _ from hv).symm.trans hj
  cases this;exact h2 rfl
end
end

section
structure Sim(D E:Dev):Prop where
 dn:64<=D.n
 en:64<=E.n
 pers:∀ i,D.pers i=E.pers i
 hist:∀ l,D.hist l=E.hist l
 owed:∀ l,D.owed 0 l=E.owed 0 l
 out:∀ l,64<=l->E.hist l = []
 doff:D.off=false
 eoff:E.off=false
 dar:D.armed=false
 ear:E.armed=false
theorem Li{D:Dev}(ho:D.off=false)(ha:D.armed=false):D.countedB true=true/\D.countedD 0 true=D.tick:=by
 unfold Dev.countedD Dev.countedB Dev.onB Dev.cut;rw[ho,ha];exact⟨rfl,rfl⟩
theorem Vd{D:Dev}{e:Nat×Nat×Int}(ho:D.off=false)(ha:D.armed=false)(h1:e.1=1)(h8:e.2.1%8=0)(hl:e.2.1<64*D.n):D.step 0 e=D.tick.put e.2.1 e.2.2:=by
 have hw:D.wordB e.2.1=true:=by unfold Dev.wordB;exact decide_eq_true ⟨h8,hl⟩
 unfold Dev.step Dev.store;rw[if_pos h1,hw,(Li ho ha).1,(Li ho ha).2]
 rfl
theorem Vc{D:Dev}{e:Nat×Nat×Int}(ho:D.off=false)(ha:D.armed=false)(h1:e.1=2)(hl:e.2.1<64*D.n):D.step 0 e=D.tick.jot 0 (e.2.1/64):=by
 have hw:D.inB e.2.1=true:=by unfold Dev.inB;exact decide_eq_true hl
 unfold Dev.step Dev.flush;rw[if_neg (by omega),if_pos h1,hw,(Li ho ha).1,(Li ho ha).2]
 rfl
theorem Jh{D:Dev}{e:Nat×Nat×Int}(ho:D.off=false)(ha:D.armed=false)(h1:e.1=3):D.step 0 e=D.tick.sync 0:=by
 unfold Dev.step Dev.fence;rw[if_neg (by omega),if_neg (by omega),(Li ho ha).1,(Li ho ha).2]
 rfl
theorem Qhv(D:Dev)(l m:Nat):(D.tick.jot 0 l).owed 0 m=if m=l then(D.hist l).length else D.owed 0 m:=by
 unfold Dev.owed Dev.jot
 by_cases h:m=l
 ·subst h
  simp[Dev.tick]
 ·simp[h,Dev.tick]
theorem Sim.step{D E:Dev}(h:Sim D E){e:Nat×Nat×Int}(he:OkQ 64 e):Sim (D.step 0 e) (E.step 0 e):=by
 have hlt:=he.lt;have hd:=h.dn;have hn:=h.en
 have h3:e.1=1\/e.1=2\/e.1=3:=by have:=he.lo;have:=he.hi;omega
 rcases h3 with h3 | h3 | h3
 ·rw[Vd h.doff h.dar h3 he.al (by omega),Vd h.eoff h.ear h3 he.al (by omega)]
  refine⟨hd,hn,h.pers,fun l => ?_,h.owed,fun l hl => ?_,h.doff,h.eoff,h.dar,h.ear⟩
  ·show(if l=e.2.1/64 then D.hist l ++ [(e.2.1,e.2.2)]else D.hist l)=(if l=e.2.1/64 then E.hist l ++ [(e.2.1,e.2.2)]else E.hist l)
   rw[h.hist]
  ·show(if l=e.2.1/64 then E.hist l ++ [(e.2.1,e.2.2)]else E.hist l) = []
   rw[if_neg (by omega)];exact h.out l hl
 ·rw[Vc h.doff h.dar h3 (by omega),Vc h.eoff h.ear h3 (by omega)]
  refine⟨hd,hn,h.pers,h.hist,fun l => ?_,h.out,h.doff,h.eoff,h.dar,h.ear⟩
  rw[Qhv,Qhv,h.hist,h.owed]
 ·rw[Jh h.doff h.dar h3,Jh h.eoff h.ear h3]
  have ho:∀ l,D.tick.owed 0 l=E.tick.owed 0 l:=h.owed;refine⟨hd,hn,fun i => ?_,fun l => ?_,fun l => ?_,fun l hl => ?_,h.doff,h.eoff,h.dar,h.ear⟩
  ·show Qu ((D.hist (i/8)).take (D.tick.owed 0 (i/8))) (D.pers i) i=Qu ((E.hist (i/8)).take (E.tick.owed 0 (i/8))) (E.pers i) i
   rw[h.hist,h.pers,ho]
  ·show(D.hist l).drop (D.tick.owed 0 l)=(E.hist l).drop (E.tick.owed 0 l)
   rw[h.hist,ho]
  ·rfl
  ·show(E.hist l).drop _ = []
   rw[h.out l hl,List.drop_nil]
theorem Sim.run{q:List (Nat×Nat×Int)}:∀ {D E:Dev},Sim D E->(∀ e∈q,OkQ 64 e)->Sim (D.run 0 q) (E.run 0 q):=by
 induction q with
 | nil=>intro D E h _;exact h
 | cons e q ih=>intro D E h hq;exact ih (h.step (hq e (List.mem_cons_self ..))) (fun x hx=>hq x (List.mem_cons_of_mem _ hx))
theorem SCl.sim{D:Dev}{n x:Nat}{C:Nat->Int}(h:SCl D 0 n C x)(hn:64<=n):Sim D (Dev.fresh 64 C) where
 dn:=by rw[h.grp.on.n];exact hn
 en:=Nat.le_refl _
 pers:=h.grp.hst.pers
 hist:=fun l=>by rw[h.grp.hst.hist];rfl
 owed:=fun l=>by
  unfold Dev.owed;rw[h.grp.no l (fun o ho=>by simp at ho)]
  rfl
 out:=fun _ _=>rfl
 doff:=h.grp.on.off
 eoff:=rfl
 dar:=h.ar
 ear:=rfl
end

section
open Go.RowKit Go.Shelf
attribute [local go_sem] Oper.semAt_some
section
variable{w:World}{v:DV}{own:Nat->Option Qp}{D:Dev}{p n x:Nat}{C:Nat->Int}
theorem Qey(n:Nat)(hn:3<=n)(es:List (Int×Int))(bl bf:Nat)(s:(W:World)->Below w.heap.size w W->SeqStopsK Fence.wide (n-1) prog 194 #[.pointer (some ⟨bl,0,none⟩),.pointer (some ⟨bf,0,none⟩)] Q4h KpT (fun xs=>xs=es) (fun pre=>pre <+: es) es.length W)(hl:es.length<=100000) :
  CallsIn Fence.wide n prog 117 #[.func (.func 194) #[] #[.pointer (some ⟨bl,0,none⟩),.pointer (some ⟨bf,0,none⟩)]] w (Yx w es):=by
 have h1:1<=n:=by omega
 obtain⟨i0,hi,hz0,hz1,hz2⟩:=info_parts Aa;refine callsIn_of_wp_marks func117 rfl trivial ?_ rfl
 simp only[ntmps117,List.size_toArray,List.length_cons,List.length_nil,Nat.reduceAdd,Nat.reduceSub,Array.replicate_succ,Array.replicate_zero,List.push_toArray,List.append_toArray,List.nil_append,List.cons_append]
 gi_wp2
 have bO:Boxed (w.alloc (.cells #[.slice none 0 0] 186)) w.heap.size 186 (.slice none 0 0):=Boxed.new w 186 (.slice none 0 0);have hB0:Below w.heap.size w (w.alloc (.cells #[.slice none 0 0] 186)):=Qa _ _;refine wpIn_rangeFunc_ownG rfl h1 (gf:=194) (lb:=#[.pointer (some ⟨bl,0,none⟩),.pointer (some ⟨bf,0,none⟩)]) rfl trivial (enters_of func194 (by kernel_rfl) rfl)
  (s _ hB0) KpT.trans Q6w (Below.refl _ _) (fun _=>rfl)
  (fun pre W=>(∃ v,Boxed W w.heap.size 186 v/\W.ownsRow w.heap.size 194 2 v pre.length (prC pre)/\True)/\Below w.heap.size w W)
  (fun _ _ _=>False)
  (OwnFrom.and (Own.from (holdsRow_own w.heap.size w.heap.size 186 194 2 (fun pre=>pre.length) (fun pre=>prC pre) (fun _ _=>True)) _) (ownFrom_below (Nat.le_refl _) (by simp)))
  (fun _ _ _ _ _ hs _ _=>hs)
  ⟨⟨_,bO,World.ownsRow_nil _ _ _ _,trivial⟩,hB0⟩
  (fun x=>{tmps:=#[.func (.func 194) #[] #[.pointer (some ⟨bl,0,none⟩),.pointer (some ⟨bf,0,none⟩)],undef,.slice none 0 0,.pointer (some ⟨w.heap.size,0,none⟩),.int .u64 x.1,.int .u64 x.2,.func (.func 194) #[] #[.pointer (some ⟨bl,0,none⟩),.pointer (some ⟨bf,0,none⟩)],.int .u64 x.1,.int .u64 x.2,undef,undef,undef,undef,undef,undef,undef],defers := []}) ?assign ?body ?done ?stop
 case assign=>
  intro l x W K hK
  gi_wp2
  exact hK
 case body=>
  rintro l pre x W ⟨⟨v,hv,hrow,_⟩,hB⟩ hlt;have hc:=hv.cell
  gi_wp2_with (gi_at_builtin;refine wpListIn_append_own _ rfl _ _ 186 rfl w.heap.size 194 i0 (.agg #[.int .u64 0,.int .u64 0]) 2 16 underlying186 hi hz0 hz1 hz2 rfl (by decide) _ _ _ rfl (hrow.alloc _) ⟨W.heap.size,0,none⟩ 1 1 [.int .u64 x.1,.int .u64 x.2] rfl rfl (Ec _ _ _ _) (by simp[Value.oneCell']) (by unfold maxLen;omega) (by omega) (by have:=hB.size;simp;omega) ?_;intro v' w1 hown' hgrow _;obtain⟨g',cap',rfl⟩:=ownsRow_succ hown';obtain⟨hv1,hv2,hr2,hk2,hb2⟩:=hv.appended (by decide) hrow hB.size (by omega) hown' hgrow;have hkp:=Qji (v':=.slice (some ⟨g',0,none⟩) (pre.length+1) cap') hv hrow hgrow;have hc1:=hv1.cell;have hf1:=hv1.frozen)
  exact⟨hk2.from _,hkp,⟨_,hv2,by rw[Fw,List.length_append];exact hr2,trivial⟩,hB.trans hb2⟩
 case done=>
  rintro D ys W hD rfl ⟨⟨v,hv,hrow,_⟩,hB⟩ hK;have hc:=hv.cell
  gi_wp2
  refine⟨by simp,.inl ⟨_,_,rfl,run_takeDeferred hK,?_⟩⟩
  exact⟨_,results_tmp rfl _ _ _,v,rfl,ownsRow_putObj hrow _ hK rfl,hB.trans (belowK_b (w:=w) (Nat.le_refl _) W D _ _ (by simp at hD;omega) hK rfl rfl)⟩
 case stop=>
  rintro D c pre W _ _ h _;exact h.elim
theorem Qk7{W:World}{j:Nat}(h:Yw W v own D j p)(hok:Xk (Xc D p) (D.n*64))(from':Int) :
  Du W (.iface 40 (.pointer (some ⟨v.tb j,0,none⟩))) p from' ((De (Xc D p) (Zd (Xc D p))).drop (findIdx (Xc D p) from' (Zd (Xc D p)))):=by
 intro W' hb;refine(h.below hb).read.mono ?_
 rintro r w1 ⟨hb1,⟨_,cb,rfl,_,hc⟩ | ⟨hbad,_⟩⟩
 ·exact⟨hb1,.inr ⟨cb,_,_,_,rfl,hc,rfl⟩⟩
 ·exact absurd hok hbad
theorem Qcm{W:Nat->Int}{l:List Nat}(h:∀ s∈l,0<=W (4+s)):findIdx W 0 l=0:=
 Nh W 0 l 0 (Nat.zero_le _) (fun j s hj=>absurd hj (Nat.not_lt_zero j)) (fun s hs=>by have:=h s (List.mem_of_getElem? hs);omega)
theorem Lu(h:Yw w v own D 0 p)(hok:Xk (Xc D p) (D.n*64)){bl bf:Nat}(hbl:Blk w bl #[.iface 40 (.pointer (some ⟨v.tb 0,0,none⟩)),.int .u64 p] 154)(hbf:Blk w bf #[.int .u64 0] 31) :
  Calls prog 117 #[.func (.func 194) #[] #[.pointer (some ⟨bl,0,none⟩),.pointer (some ⟨bf,0,none⟩)]] w (Yx w (De (Xc D p) (Zd (Xc D p)))):=by
 have hs:∀ s∈Zd (Xc D p),s<12:=fun s hs'=>by
  unfold Zd Yr at hs';obtain⟨i,hi,rfl⟩:=List.mem_map.1 hs';have hi:=List.mem_range.1 hi;obtain⟨h1,h2⟩:=hok.1;exact((h2 i (by omega)).2 hi).1
 have hf:findIdx (Xc D p) 0 (Zd (Xc D p))=0:=Qcm (fun s hs'=>(h.hW (4+s) (by have:=hs s hs';omega)).1);have hy:=Qk7 h hok 0;rw[hf,List.drop_zero]at hy;refine(callsIn_wide (n:=3)).1 ?_
 exact Qey 3 (by omega) _ bl bf (fun W hW=>Qlr 2 (by omega) bl bf _ p 0 _ (.inr ⟨_,rfl⟩) (hbl.below hW) (hbf.below hW) (hy.below hW)) (by simp[De,Zd,Yr];omega)
structure OnC(D:Dev)(n:Nat)(C:Nat->Int)(x:Nat):Prop where
 dn:D.n=n
 off:D.off=false
 ar:D.armed=false
 err:D.err 0=0
 cur:D.cur=C
 vb:D.VB
 exec:D.exec<=x
theorem SCl.onC(h:SCl D 0 n C x):OnC D n C x:=⟨h.grp.on.n,h.grp.on.off,h.ar,h.grp.on.err,h.cur,h.vb,h.exec⟩
theorem OnC.step(h:OnC D n C x){e:Nat×Nat×Int}(he:OkQ n e):OnC (D.step 0 e) n (if e.1=1 then fun i=>if e.2.1/8=i then e.2.2 else C i else C) (x+1):=by
 have hlt:=he.lt;have hvb:=Dev.VB.run [e] h.vb 0 (fun a ha _=>by simp at ha;subst ha;exact⟨he.v0,he.v1⟩);have hex:=D.run_exec 0 [e];have hx:=h.exec;have hrun:D.run 0 [e]=D.step 0 e:=rfl;rw[hrun]at hvb hex;have h3:e.1=1\/e.1=2\/e.1=3:=by have:=he.lo;have:=he.hi;omega
 refine⟨by rw[Qqa];exact h.dn,?_,?_,?_,?_,hvb,by simp at hex;omega⟩
 ·rcases h3 with h3 | h3 | h3
  ·rw[Vd h.off h.ar h3 he.al (by rw[h.dn];exact hlt)];exact h.off
  ·rw[Vc h.off h.ar h3 (by rw[h.dn];exact hlt)];exact h.off
  ·rw[Jh h.off h.ar h3];exact h.off
 ·rcases h3 with h3 | h3 | h3
  ·rw[Vd h.off h.ar h3 he.al (by rw[h.dn];exact hlt)];exact h.ar
  ·rw[Vc h.off h.ar h3 (by rw[h.dn];exact hlt)];exact h.ar
  ·rw[Jh h.off h.ar h3];exact h.ar
 ·rcases h3 with h3 | h3 | h3
  ·rw[Vd h.off h.ar h3 he.al (by rw[h.dn];exact hlt)];exact h.err
  ·rw[Vc h.off h.ar h3 (by rw[h.dn];exact hlt)];exact h.err
  ·rw[Jh h.off h.ar h3];exact h.err
 ·funext i
  have hc:D.cur i=C i:=by rw[h.cur]
  rcases h3 with h3 | h3 | h3
  ·rw[Vd h.off h.ar h3 he.al (by rw[h.dn];exact hlt),if_pos h3]
   show Qu (if i/8=e.2.1/64 then D.hist (i/8) ++ [(e.2.1,e.2.2)]else D.hist (i/8)) (D.pers i) i=_
   by_cases h1:i/8=e.2.1/64
   ·rw[if_pos h1,Xt]
    by_cases h2:e.2.1/8=i
    ·rw[if_pos h2,if_pos h2]
    ·rw[if_neg h2,if_neg h2];exact hc
   ·rw[if_neg h1,if_neg (by omega)];exact hc
  ·rw[Vc h.off h.ar h3 (by rw[h.dn];exact hlt),if_neg (by omega)];exact hc
  ·rw[Jh h.off h.ar h3,if_neg (by omega),Cu.sync_cur];exact hc
theorem OnC.run{q:List (Nat×Nat×Int)}:∀ {D:Dev} {C:Nat->Int} {x:Nat},OnC D n C x->(∀ e∈q,OkQ n e)->OnC (D.run 0 q) n (Xj q C) (x+q.length):=by
 induction q with
 | nil=>intro D C x h _;exact h
 | cons e q ih=>
  intro D C x h hq;have:=ih (h.step (hq e (List.mem_cons_self ..))) (fun a ha=>hq a (List.mem_cons_of_mem _ ha));rw[Kx];rw[show x+(e::q).length=x+1+q.length by simp;omega];exact this
end
end

section
open Go.Maps
attribute [local go_sem ↓] Go.wp_at_zero Go.wp_at_succ
theorem SCl.bcl{D:Dev}{n x:Nat}{C:Nat->Int}(h:SCl D 0 n C x):BCl D n C x:=⟨h.grp,h.vb,h.exec,h.ar⟩
theorem BCl.scl{D:Dev}{n x:Nat}{C:Nat->Int}(h:BCl D n C x):SCl D 0 n C x:=⟨h.grp,h.vb,h.exec,h.ar⟩
theorem SCl.bok{D:Dev}{n x:Nat}{C:Nat->Int}(h:SCl D 0 n C x)(hn:64<=n):BOk D 1312:=⟨h.vb,h.grp.on.off,h.grp.on.err,rfl,by rw[h.grp.on.n];omega⟩
def Tn:List (Nat×Nat×Int):=Rm (fun _=>0) 1312 5 1
def gBk(F:Nat->Int)(e:Bool):Bool:=Qci (Th F 1312 7) e&&(decide (Qdk F 1312 7=0)&&decide (Th (Qkd F 1312 7 3) 1312 7=Th F 1312 7 ++ [(7,3)]))
def Qx0(F:Nat->Int):Prop:=Qci (Th F 1312 7) false=true->Gk F 1312
theorem Eg{l:List (Int×Int)}{e:Bool}(h:Qci l e=true):Qci l false=true:=by
 unfold Qci at *
 cases e
 ·exact h
 ·simp at h;simp[h]
section
variable{w:World}{v:DV}{own:Nat->Option Qp}{D:Dev}{n x:Nat}{C F:Nat->Int}
theorem Fp:Calls prog 71 #[(.iface 40 (.pointer (some ⟨v.tb 0,0,none⟩))),.int .u64 1312] w fun r w'=>r = .returned (.agg #[(.iface 40 (.pointer (some ⟨v.tb 0,0,none⟩))),.int .u64 1312])/\Below w.heap.size w w':=by
 go_enter func71,ntmps71
 go_wp2_with fail
 refine bodyPost_ret (v:=.agg #[(.iface 40 (.pointer (some ⟨v.tb 0,0,none⟩))),.int .u64 1312]) (by simp[results,results71,go_sem]) rfl ⟨rfl,?_⟩
 exact Qa _ _
theorem Qu0{B:Nat}{w0:World}(P:Pst B w0 v D own w)(hS:SCl D 0 n C x)(hn:64<=n)(hx:x<=100000)(hi:Gk C 1312)(k:Nat)(hk:k<18446744073709551616)(y:Int)(hy:0<=y/\y<18446744073709551616) :
  Calls prog 114 #[.agg #[(.iface 40 (.pointer (some ⟨v.tb 0,0,none⟩))),.int .u64 1312],.int .u64 k,.int .u64 y] w fun r w'=>r = .returned (.int .i64 (Qdk C 1312 k))/\Qr v own w (D.run 0 (Rm C 1312 k y)) w'/\SCl (D.run 0 (Rm C 1312 k y)) 0 n (Qkd C 1312 k y) (x+9):=by
 have hcl:=hS.bcl.put (off:=1312) rfl (by omega) hk hy hi.hd;have he:=hS.exec;have hcur:=hS.cur;rw[<- hcur]at hi;refine(Qdj P.dev (hS.bok hn) hi k hk y (by omega)).mono ?_
 rintro r w' ⟨rfl,d⟩;rw[hcur]at d ⊢;refine⟨?_,d,hcl.scl⟩
 rw[hcl.grp.on.err]
 split <;> simp_all
theorem Qoc{B:Nat}(P:Pst B w v D own w)(hS:SCl D 0 n (fun _=>0) x)(hn:64<=n)(hx:x<=1000) :
  Calls prog 113 #[(.iface 40 (.pointer (some ⟨v.tb 0,0,none⟩)))] w fun r w'=>r = .returned (.int .i64 0)/\∃ own',Pst B w v (D.run 0 Tn) own' w':=by
 have H1:=hid (Fp (w:=w) (v:=v));have H2:Hid (∀ wx,Below w.heap.size w wx->Calls prog 114 #[.agg #[(.iface 40 (.pointer (some ⟨v.tb 0,0,none⟩))),.int .u64 1312],.int .u64 5,.int .u64 1] wx fun r w'=>r = .returned (.int .i64 0)/\∃ own',Pst B w v (D.run 0 Tn) own' w'):=hid (fun wx hb=>
  (Qu0 (P.next hb) hS hn (by omega) (Gk.zero _ (fun _=>by simp) rfl) 5 (by omega) 1 (by omega)).mono fun r w' hp=>⟨hp.1,(P.next hb).post hp.2.1⟩)
 clear P hS hn hx
 go_enter func113,ntmps113
 go_wp2_with fail
 (with_reducible refine H1.out.mono ?_)
 rintro r w1 ⟨rfl,b1⟩;have H3:=hid (H2.out w1 b1);clear b1 H2;go_wp2_with fail
 (with_reducible refine H3.out.mono ?_)
 rintro r w2 ⟨rfl,p2⟩;have P2:=hid p2;clear p2
 go_wp2_with fail
 go_ret
 exact⟨rfl,P2.out⟩
theorem Qod(h:IsDev w v own D)(hS:SCl D 0 n C x)(hn:64<=n)(hi:Gk C 1312)(h0:Qdk C 1312 6=0) :
  Calls prog 115 #[(.iface 40 (.pointer (some ⟨v.tb 0,0,none⟩)))] w fun r w'=>∃ sv,r = .returned (.tuple #[sv,.int .i64 0])/\Acc w w.heap.size w' 73 3 sv (Rm C 1312 6 2).length (Qd (Rm C 1312 6 2)):=by
 have H1:=hid (Fp (w:=w) (v:=v));have hcur:=hS.cur;have H2:Hid (∀ wx,Below w.heap.size w wx->Calls prog 72 #[.agg #[(.iface 40 (.pointer (some ⟨v.tb 0,0,none⟩))),.int .u64 1312],.int .u64 6,.int .u64 2] wx fun r w'=>∃ sv,r = .returned (.tuple #[sv,.int .i64 0])/\Acc wx wx.heap.size w' 73 3 sv (Rm C 1312 6 2).length (Qd (Rm C 1312 6 2))):=hid (fun wx hb=>by
  have:=Kd (h.below hb) (hS.bok hn) (by rw[hcur];exact hi) 6 (by omega) 2;rw[hcur,h0]at this;exact this)
 clear h hS hn hi h0 hcur
 go_enter func115,ntmps115
 go_wp2_with fail
 (with_reducible refine H1.out.mono ?_)
 rintro r w1 ⟨rfl,b1⟩;have B1:=hid b1;have H3:=hid (H2.out w1 b1);clear b1 H2;go_wp2_with fail
 (with_reducible refine H3.out.mono ?_)
 rintro r w2 ⟨sv,rfl,a2⟩;have A2:=hid (a2.deeper B1.out);clear a2
 go_wp2_with fail
 go_ret2
 exact⟨_,rfl,A2.out⟩
theorem Qoe{B:Nat}(P:Pst B w v D own w)(hS:SCl D 0 n F x)(hn:64<=n)(hx:x<=1000)(hok:Qx0 F)(e:Bool) :
  Calls prog 116 #[(.iface 40 (.pointer (some ⟨v.tb 0,0,none⟩))),.bool e] w fun r w'=>r = .returned (.bool (gBk F e))/\Below B w w':=by
 have H1:=hid (Fp (w:=w) (v:=v));have hcur:=hS.cur;have HA:Hid (∀ wx,Calls prog 118 #[.agg #[(.iface 40 (.pointer (some ⟨v.tb 0,0,none⟩))),.int .u64 1312]] wx fun r w'=>∃ bl,r = .returned (.func (.func 189) #[] #[.pointer (some ⟨bl,0,none⟩)])/\Blk w' bl #[(.iface 40 (.pointer (some ⟨v.tb 0,0,none⟩))),.int .u64 1312] 147/\Below wx.heap.size wx w'):=hid (fun wx=>(Qlq (w:=wx) _ ⟨_,rfl⟩ 1312).mono fun r w' hp=>⟨_,hp.1,by rw[hp.2];exact Blk.new wx _ _,by rw[hp.2];exact Qa _ _⟩);have HC1:Hid (∀ wx bl,Below w.heap.size w wx->Blk wx bl #[(.iface 40 (.pointer (some ⟨v.tb 0,0,none⟩))),.int .u64 1312] 147->Calls prog 117 #[.func (.func 189) #[] #[.pointer (some ⟨bl,0,none⟩)]] wx (Yx wx (Th F 1312 7))):=hid (fun wx bl hb hk=>by
  have:=Lt (P.next hb).dev (hS.bok hn) (off:=1312) hk
  rwa [hcur]at this)
 have hle:=Qe9 F 1312 7;have HX:Hid (∀ (wx:World) (u:Value),Ql wx 2 u (Th F 1312 7).length (prC (Th F 1312 7))->Calls prog 119 #[u,.bool e] wx fun r w'=>r = .returned (.bool (Qci (Th F 1312 7) e))/\Below wx.heap.size wx w'):=hid (fun wx u hr=>Tr u _ e hr (by omega));have HB0:=hid P.size;have HP:Hid (Qci (Th F 1312 7) e=true->∀ wx,Below w.heap.size w wx->Calls prog 114 #[.agg #[(.iface 40 (.pointer (some ⟨v.tb 0,0,none⟩))),.int .u64 1312],.int .u64 7,.int .u64 3] wx fun r w'=>r = .returned (.int .i64 (Qdk F 1312 7))/\Below B w w'/\wx.heap.size<=w'.heap.size/\(∀ k,w.heap.size<=k->k<wx.heap.size->w'.heap[k]? = wx.heap[k]?) /\
   ∀ wy bl,Below w'.heap.size w' wy->Blk wy bl #[(.iface 40 (.pointer (some ⟨v.tb 0,0,none⟩))),.int .u64 1312] 147->Calls prog 117 #[.func (.func 189) #[] #[.pointer (some ⟨bl,0,none⟩)]] wy (Yx wy (Th (Qkd F 1312 7 3) 1312 7))):=hid (fun he wx hb=>by
  refine(Qu0 (P.next hb) hS hn (by omega) (hok (Eg he)) 7 (by omega) 3 (by omega)).mono ?_
  rintro r w' ⟨hr,d,s2⟩;have dd:=d;obtain⟨own2,P2⟩:=(P.next hb).post d;obtain⟨_,_,_,u⟩:=dd;refine⟨hr,P2.bel,u.size,fun k h1 h2=>u.block k h2 (fun ho => ?_),fun wy bl hwy hbl => ?_⟩
  ·have:=P.dev.lt k ho;omega
  ·have:=Lt (P2.next hwy).dev (s2.bok hn) (off:=1312) hbl
   rwa [s2.cur]at this)
 have hle2:=Qe9 (Qkd F 1312 7 3) 1312 7;unfold gBk;clear P hS hn hx hok hcur
 generalize Th (Qkd F 1312 7 3) 1312 7=l2 at *
 generalize Th F 1312 7=l1 at *
 generalize Qdk F 1312 7=pe at *
 generalize hex:Qci l1 e=ex at *
 clear hex
 cases ex
 ·clear HP
  go_enter func116,ntmps116
  go_wp2_with fail
  (with_reducible refine H1.out.mono ?_)
  rintro r w1 ⟨rfl,b1⟩;have B1:=hid (b1.trans ((Qa w1 (.cells #[(.iface 40 (.pointer (some ⟨v.tb 0,0,none⟩))),.int .u64 1312] 147)).mono b1.size));have K1:=hid (Blk.new w1 #[(.iface 40 (.pointer (some ⟨v.tb 0,0,none⟩))),.int .u64 1312] 147);have k0:=K1.out.cell (i:=0) rfl;have k1:=K1.out.cell (i:=1) rfl
  clear b1;go_wp2_with fail
  (with_reducible refine(HA.out _).mono ?_)
  rintro r w2 ⟨bl,rfl,kb,b2⟩;have B2:=hid (B1.out.trans (b2.mono B1.out.size));have HC2:=hid (HC1.out w2 bl B2.out kb);clear kb b2 HC1 k0 k1;go_wp2_with fail
  (with_reducible refine HC2.out.mono ?_)
  rintro r w3 hp;obtain⟨u,rfl,ru,_,_,b3⟩:=hp.rd;have B3:=hid (B2.out.trans (b3.mono B2.out.size));have HX1:=hid (HX.out w3 u ru);clear hp ru b3 HC2;go_wp2_with fail
  (with_reducible refine HX1.out.mono ?_)
  rintro r w4 ⟨rfl,b4⟩;have B4:=hid ((B3.out.trans (b4.mono B3.out.size)).mono HB0.out);clear b4;go_wp2_with fail
  go_ret
  exact⟨by simp,B4.out⟩
 ·have HP1:=hid (HP.out rfl)
  clear HP;obtain⟨i0,hi,hz0,hz1,hz2⟩:=info_parts Aa;have I:=hid (And.intro hi (And.intro hz0 (And.intro hz1 hz2)));clear hi hz0 hz1 hz2;have hpe:pe=0\/pe≠0:=by omega
  rcases hpe with rfl | hpe
  case' inr=>have hpb:(pe != 0)=true:=by simpa using hpe
  all_goals
   go_enter func116,ntmps116
   go_wp2_with fail
   (with_reducible refine H1.out.mono ?_)
   rintro r w1 ⟨rfl,b1⟩;have B1:=hid (b1.trans ((Qa w1 (.cells #[(.iface 40 (.pointer (some ⟨v.tb 0,0,none⟩))),.int .u64 1312] 147)).mono b1.size));have K1:=hid (Blk.new w1 #[(.iface 40 (.pointer (some ⟨v.tb 0,0,none⟩))),.int .u64 1312] 147);have k0:=K1.out.cell (i:=0) rfl;have k1:=K1.out.cell (i:=1) rfl
   have S1:=hid b1.size;clear b1;go_wp2_with fail
   (with_reducible refine(HA.out _).mono ?_)
   rintro r w2 ⟨bl,rfl,kb,b2⟩;have B2:=hid (B1.out.trans (b2.mono B1.out.size));have K2:=hid (K1.out.below b2);have HC2:=hid (HC1.out w2 bl B2.out kb);clear kb b2 HC1 k0 k1;go_wp2_with fail
   (with_reducible refine HC2.out.mono ?_)
   rintro r w3 hp;obtain⟨u,rfl,ru,ou,gu,b3⟩:=hp.rd;have B3:=hid (B2.out.trans (b3.mono B2.out.size));have K3:=hid (K2.out.below b3);have HX1:=hid (HX.out w3 u ru);have OU:=hid ou;have GU:Hid (∀ g,u.ownBlock=some g->w.heap.size<=g):=hid (fun g hg=>Nat.le_trans B2.out.size (gu g hg))
   clear hp ru b3 HC2 ou gu HX;go_wp2_with fail
   (with_reducible refine HX1.out.mono ?_)
   rintro r w4 ⟨rfl,b4⟩;have B4:=hid (B3.out.trans (b4.mono B3.out.size));have K4:=hid (K3.out.below b4);have OU4:=hid (OU.out.kept (fun k hk=>b4.block k (OU.out.lt k hk)));have k0:=K4.out.cell (i:=0) rfl;have k1:=K4.out.cell (i:=1) rfl
   have HP2:=hid (HP1.out w4 B4.out);clear b4 HP1 HX1 OU;go_wp2_with fail
   (with_reducible refine HP2.out.mono ?_)
   rintro r w5 ⟨rfl,b5,z5,k5,hc5⟩;have B5:=hid b5;have K5:=hid (show Blk w5 w1.heap.size _ 147 from(k5 w1.heap.size S1.out (K4.out.lt)).trans K4.out);have OU5:=hid (OU4.out.kept (fun k hk=>k5 k (GU.out k hk) (OU4.out.lt k hk)));have Z5:=hid z5;have HC5:=hid hc5;have k0:=K5.out.cell (i:=0) rfl;have k1:=K5.out.cell (i:=1) rfl
   clear b5 z5 k5 hc5 HP2 OU4;go_wp2_with fail
  ·go_ret
   refine⟨?_,B5.out⟩
   rw[decide_eq_false hpe]
   rfl
  ·(with_reducible refine(HA.out _).mono ?_)
   rintro r w6 ⟨bl6,rfl,kb6,b6⟩;have HC6:=hid (HC5.out w6 bl6 b6 kb6);have B6:=hid b6;clear kb6 b6 HC5;go_wp2_with fail
   (with_reducible refine HC6.out.mono ?_)
   rintro r w7 hp7;obtain⟨u7,rfl,ru7,_,gu7,b7⟩:=hp7.rd;have B7:=hid (B6.out.trans (b7.mono B6.out.size));have RU7:=hid ru7;have GU7:=hid gu7
   have OU7:=hid (OU5.out.kept (fun k hk=>B7.out.block k (OU5.out.lt k hk)));clear hp7 ru7 gu7 b7 HC6;go_wp2_with (at_builtin;refine Qc _ rfl _ _ 186 rfl 194 i0 _ 2 16 underlying186 I.out.1 I.out.2.1 I.out.2.2.1 I.out.2.2.2 rfl (by decide) _ _ _ rfl (by exact OU7.out.alloc _) _ 1 (prC [(7,3)]) rfl (by exact Ql.newAt _ _ _ 2 1 _ rfl rfl) (by simp[prC,Value.oneCell']) (by unfold maxLen;omega) (by omega) ?_)
   rintro v8 w8 o8 g8 a8 _;have RU8:=hid ((RU7.out.alloc _).kept (fun k hk hlt=>g8.block k hlt (fun e=>by
    have h1:=GU7.out k hk;have h2:=OU5.out.lt k e.symm;have:=B6.out.size;omega)))
   have BA:=(B7.out.trans ((Qa w7 (.cells #[.int .u64 7,.int .u64 3] 194)).mono B7.out.size)).mono (show B<=w5.heap.size from Nat.le_trans HB0.out (Nat.le_trans B4.out.size Z5.out));have BB:=B5.out.trans BA;have B8:Hid (Below B w w8):=hid ⟨g8.os.trans BB.os,g8.tape.trans BB.tape,g8.output.trans BB.output,Nat.le_trans BB.size g8.size,fun k hk=>(g8.block k (by have:=BB.size;have:=HB0.out;omega) (fun e=>by have h1:=GU.out k e.symm;have:=HB0.out;omega)).trans (BB.block k hk)⟩;have R8:Hid (Ql w8 2 v8 (l1 ++ [(7,3)]).length (prC (l1 ++ [(7,3)]))):=hid (by
    have:=o8.rd
    rwa [<- Fw,show l1.length+1=(l1 ++ [((7:Int),(3:Int))]).length by simp]at this)
   have HE:=hid (Fs u7 v8 l2 (l1 ++ [(7,3)]) RU8.out R8.out (by omega) (by simp;omega));clear o8 g8 a8 BA BB;go_wp2_with fail
   (with_reducible refine HE.out.mono ?_)
   rintro r w9 ⟨rfl,b9⟩;have B9:=hid (B8.out.trans (b9.mono (Nat.le_trans HB0.out B8.out.size)));clear b9;go_wp2_with fail
   go_ret
   exact⟨by simp,B9.out⟩
end
end
end Go.Proofs.YtlhchkajjpefmaaGreatDoor
