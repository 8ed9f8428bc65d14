import Derived.Test.YtlhchkajjpefmaaGreatDoorJ4
import Derived.Deep.RegionLaw
import Derived.Shelf.Strings.Trim
import Derived.Shelf.Small.Utf8
import Derived.Shelf.Small.Bits
import Derived.Shelf.Small.Strs
import Derived.Shelf.Strconv.Itoa0
import Derived.Shelf.Strings.Search1
import Derived.Shelf.Strings.Runes
import Derived.Shelf.Strings.AsciiSet
import Derived.Shelf.Bits.Mul64
import Derived.Shelf.Unicode.DecodeSlow
import Derived.Test.YtlhchkajjpefmaaGreatDoorProg
set_option maxHeartbeats 16000000
set_option maxRecDepth 100000
namespace Go.Proofs.YtlhchkajjpefmaaGreatDoor
section
open Go.RowKit
attribute [local go_sem ↓] Go.wp_at_zero Go.wp_at_succ
theorem infoSlW:(Tryz.prog.info? 52).map (fun i=>(i.zero,i.size,i.bytes))=some (some (.slice none 0 0),1,24):=by kernel_rfl
structure ExAt(D:Dev)(pg:Nat)(lv hv:Value)(hs:List Value)(w:World):Prop where
 pers:Row w pg (64*D.n) 5 (fun i => .int .u8 (byteAt D.pers i))
 lines:RdSl w 1 lv D.dirtyL.length (natsI D.dirtyL)
 hist:RdSl w 1 hv D.dirtyL.length hs
 row:∀ (i l:Nat),D.dirtyL[i]? = some l→∃ u,hs[i]? = some u∧RdSl w 2 u (D.hist l).length (flat (D.hist l))
theorem ExAt.next{D:Dev}{pg:Nat}{lv hv:Value}{hs:List Value}{w w':World}(h:ExAt D pg lv hv hs w)(hb:Below w.heap.size w w'):ExAt D pg lv hv hs w':=
 ⟨h.pers.below hb,h.lines.below hb,h.hist.below hb,fun i l hl=>let ⟨u,h1,h2⟩:=h.row i l hl;⟨u,h1,h2.below hb⟩⟩
structure ExSt(w3:World)(D:Dev)(sb:Nat)(pv lv hv:Value)(k:Nat)(hs:List Value)(wr:World):Prop where
 box:Blk wr sb #[pv,lv,hv] 95
 own:OwnSl wr 52 1 hv k hs
 new:∀ g,hv.ownBlock=some g→w3.heap.size≤g
 row:∀ (i l:Nat),i<k→D.dirtyL[i]? = some l→∃ u,hs[i]? = some u∧RdSl wr 2 u (D.hist l).length (flat (D.hist l))∧∀ g,u.ownBlock=some g→w3.heap.size≤g∧g<wr.heap.size∧hv.ownBlock≠some g
 upd:Upd (· = sb) w3 wr
 sz:sb<w3.heap.size
section
variable{w w3 wr w5 w6:World}{v:DV}{own:Nat→Option Role}{D:Dev}{sb k l:Nat}{pv lv hv hv' u:Value}{hs:List Value}
theorem ExSt.step(h:ExSt w3 D sb pv lv hv k hs wr)(hl:D.dirtyL[k]? = some l)(hu:RdSl w5 2 u (D.hist l).length (flat (D.hist l)))(hn:∀ g,u.ownBlock=some g→wr.heap.size≤g∧g<w5.heap.size)(hb:Below wr.heap.size wr w5){wz:World}(hz:Below w5.heap.size w5 wz)
  (o1:OwnSl w6 52 1 hv' (k+1) (hs ++ [u])) (g1:wz.grownBy w6 hv.ownBlock) (b1:slAddr hv'=slAddr hv∨slAddr hv'=some ⟨wz.heap.size,0,none⟩):ExSt w3 D sb pv lv hv' (k+1) (hs ++ [u]) (w6.setCell ⟨sb,2,none⟩ hv'):=by
 have hbz:Below wr.heap.size wr wz:=hb.trans (hz.mono hb.size);have hsw:w3.heap.size≤wr.heap.size:=h.upd.size;have hvl:∀ g,hv.ownBlock=some g→g<wr.heap.size:=h.own.lt;have hne:hv.ownBlock≠some sb:=fun e=>by have:=h.new sb e;have:=h.sz;omega
 have hnew':∀ g,hv'.ownBlock=some g→w3.heap.size≤g∧(hv.ownBlock=some g∨g=wz.heap.size):=fun g hg=>by
  rcases b1 with b1 | b1
  ·rw[ownBlock_addr,b1,← ownBlock_addr]at hg
   exact⟨h.new g hg,.inl hg⟩
  ·rw[ownBlock_addr,b1]at hg
   cases hg
   exact⟨Nat.le_trans hsw hbz.size,.inr rfl⟩
 have hu6:Upd (fun g=>hv.ownBlock=some g) wz w6:=⟨g1.os,g1.tape,g1.output,g1.size,fun g hg hS=>g1.block g hg (fun e=>hS e.symm)⟩;have hk:k=hs.length:=by have:=h.own.1;omega
 have hne2:∀ g,hv'.ownBlock=some g→g≠sb:=fun g hg e=>by have:=(hnew' g hg).1;have:=h.sz;omega
 refine⟨?_,?_,fun g hg=>(hnew' g hg).1,fun i m hi hm => ?_,?_,h.sz⟩
 ·have h1:Blk wz sb #[pv,lv,hv] 95:=h.box.below hbz
  have h2:Blk w6 sb #[pv,lv,hv] 95:=h1.upd hu6 hne;have:=h2.set 2 hv';exact this
 ·exact o1.other (fun g hg e=>hne2 g hg e) hv'
 ·by_cases hik:i<k
  ·obtain⟨u',r1,r2,r3⟩:=h.row i m hik hm
   refine⟨u',by rw[List.getElem?_append_left (by omega)];exact r1,?_,fun g hg => ?_⟩
   ·have a1:RdSl wz 2 u' (D.hist m).length (flat (D.hist m)):=r2.below hbz
    have a2:=a1.upd hu6 (fun g hg e=>(r3 g hg).2.2 e);exact a2.upd ((Upd.refl (· = sb) w6).setCell (fun _=>rfl) hv') (fun g hg e=>by have:=(r3 g hg).1;have:=h.sz;omega)
   ·obtain⟨c1,c2,c3⟩:=r3 g hg
    have hsz:wr.heap.size≤wz.heap.size:=hbz.size;refine⟨c1,by have:=hu6.size;simp;omega,fun e => ?_⟩
    rcases(hnew' g e).2 with h5 | h5
    ·exact c3 h5
    ·omega
  ·obtain rfl:i=k:=by omega
   rw[hl]at hm
   cases hm
   refine⟨u,by rw[List.getElem?_append_right (by omega),hk,Nat.sub_self];rfl,?_,fun g hg => ?_⟩
   ·have a1:RdSl wz 2 u (D.hist l).length (flat (D.hist l)):=hu.below hz
    have a2:=a1.upd hu6 (fun g hg e=>by have:=(hn g hg).1;have:=hvl g e;omega);exact a2.upd ((Upd.refl (· = sb) w6).setCell (fun _=>rfl) hv') (fun g hg e=>by have:=(hn g hg).1;have:=h.sz;omega)
   ·obtain⟨c1,c2⟩:=hn g hg
    have hsz5:=hz.size;refine⟨by omega,by have:=hu6.size;simp;omega,fun e => ?_⟩
    rcases(hnew' g e).2 with h5 | h5
    ·have:=hvl g h5;omega
    ·omega
 ·have u1:Upd (· = sb) w3 wz:=h.upd.trans (Upd.of_below (S:=fun _=>False) hbz) (fun _ _ h=>h.elim)
  have u2:Upd (· = sb) w3 w6:=u1.trans hu6 (fun g hg hS=>by have:=h.new g hS;omega);exact u2.setCell (fun _=>rfl) hv'
theorem ExSt.mid(h:ExSt w3 D sb pv lv hv k hs wr){wz:World}(hz:Below wr.heap.size wr wz)(g1:wz.grownBy w6 hv.ownBlock):Blk w6 sb #[pv,lv,hv] 95:=by
 have hne:hv.ownBlock≠some sb:=fun e=>by have:=h.new sb e;have:=h.sz;omega
 have hu6:Upd (fun g=>hv.ownBlock=some g) wz w6:=⟨g1.os,g1.tape,g1.output,g1.size,fun g hg hS=>g1.block g hg (fun e=>hS e.symm)⟩;exact(h.box.below hz).upd hu6 hne
theorem examine_any(h:IsDev w v own D)(hvb:D.VB)(hx:D.exec<4294967296) :
  Calls Tryz.prog 40 #[.pointer (some ⟨v.db,0,none⟩)] w fun r w'=>∃ (pg:Nat) (lv hv:Value) (hs:List Value),r = .returned (.agg #[.slice (some ⟨pg,0,none⟩) (64*D.n) (64*D.n),lv,hv])∧ExAt D pg lv hv hs w'∧Below w.heap.size w w':=by
 obtain⟨i0,hi0,hz0,hz1,hz2⟩:=info_parts infoSlW;have I:=Lib.hid (And.intro hi0 (And.intro hz0 (And.intro hz1 hz2)));clear hi0 hz0 hz1 hz2
 have hn:=h.wf.le;have B0:=Lib.hid (below_alloc w (.cells #[.slice none 0 0,.slice none 0 0,.slice none 0 0] 95));have X0:=Lib.hid (Blk.new w #[.slice none 0 0,.slice none 0 0,.slice none 0 0] 95);have H0:=Lib.hid (h.below B0.out);have HOW:Hid (∀ g,w.heap.size≤g→own g=none):=fun g hg=>by
  cases e:own g with
  | none=>rfl
  | some r=>have:=h.lt g (by rw[e];simp);omega
 have HPS:=Lib.hid (persisted_any H0.out hvb);unfold BytesPost at HPS;have HDR:=Lib.hid (fun(wx:World) (hd:IsDev wx v own D)=>dirty_any hd);have HH:=Lib.hid (fun(wx:World) (hd:IsDev wx v own D) (l:Nat) (hl:l<D.n)=>hist_any hd l hl hx);have HDL:Hid (∀ l∈D.dirtyL,l<D.n):=fun l hl=>by
  have:=(List.mem_filter.1 hl).1;simpa using this
 have hdl:D.dirtyL.length≤D.n:=by unfold Dev.dirtyL;exact filt_len D D.n
 clear h hvb hx
 go_enter Tryz.func40,Tryz.ntmps40
 go_wp2_with fail
 (with_reducible refine HPS.out.mono ?_)
 rintro r w1 ⟨rfl,row,b1⟩;have H1:=Lib.hid (H0.out.below b1);have B1:=Lib.hid (B0.out.trans (b1.mono B0.out.size));have X1:=Lib.hid (X0.out.below b1);have RW1:=Lib.hid row;clear row b1 HPS H0 B0 X0;go_wp2_with fail
 (with_reducible refine(HDR.out _ H1.out).mono ?_)
 rintro r w2 ⟨lv,rfl,ha⟩;obtain⟨la,lc,rfl⟩:=ha.slice;obtain⟨pg,hpg⟩:∃ pg,(w.alloc (.cells #[.slice none 0 0,.slice none 0 0,.slice none 0 0] 95)).heap.size=pg:=⟨_,rfl⟩;rw[hpg]at RW1;have hpg2:w.heap.size+1=pg:=by rw[← hpg];simp
 try rw[World.size_alloc]
 rw[hpg2];have H2:=Lib.hid (H1.out.below ha.bel);have B2:=Lib.hid (B1.out.trans (ha.bel.mono B1.out.size));have X2:=Lib.hid (X1.out.below ha.bel);have RW2:=Lib.hid (RW1.out.below ha.bel);have LV2:=Lib.hid ha.rd;have LVN:=Lib.hid (ha.own.lt);have hpl:pg<w2.heap.size:=RW2.out.lt;have hxl:w.heap.size<w2.heap.size:=X2.out.lt;obtain⟨m,hm⟩:∃ m,D.dirtyL.length=m:=⟨_,rfl⟩;rw[hm]at LV2 LVN hdl ⊢;have HM:=Lib.hid hm;obtain⟨N,hN⟩:∃ N,64*D.n=N:=⟨_,rfl⟩;rw[hN]at RW2 ⊢;have HN:=Lib.hid hN;have HLG:Hid (∀ g,(Value.slice la m lc).ownBlock=some g→w.heap.size<g):=fun g hg=>Nat.lt_of_lt_of_le X1.out.lt (ha.new g (by rw[hm];exact hg))
 clear ha hpg H1 B1 X1 RW1 HDR hm hN;go_wp2_with fail
 have S0:Hid (ExSt (w2.alloc (.cells #[.slice (some ⟨pg,0,none⟩) N N,.slice la m lc,.slice none 0 0] 95)) D w2.heap.size (.slice (some ⟨pg,0,none⟩) N N) (.slice la m lc) (.slice none 0 0) 0 [] (w2.alloc (.cells #[.slice (some ⟨pg,0,none⟩) N N,.slice la m lc,.slice none 0 0] 95))):=
  ⟨Blk.new w2 _ _,OwnSl.nil _ _ _,fun g hg=>by simp[Value.ownBlock]at hg,fun i l hi=>by omega,Upd.refl _ _,by simp⟩
 have B3:=Lib.hid (B2.out.trans ((below_alloc w2 (.cells #[.slice (some ⟨pg,0,none⟩) N N,.slice la m lc,.slice none 0 0] 95)).mono B2.out.size));have H3:=Lib.hid (H2.out.below (below_alloc w2 (.cells #[.slice (some ⟨pg,0,none⟩) N N,.slice la m lc,.slice none 0 0] 95)));have X3:=Lib.hid (X2.out.below (below_alloc w2 (.cells #[.slice (some ⟨pg,0,none⟩) N N,.slice la m lc,.slice none 0 0] 95)));have RW3:=Lib.hid (RW2.out.below (below_alloc w2 (.cells #[.slice (some ⟨pg,0,none⟩) N N,.slice la m lc,.slice none 0 0] 95)));have LV3:=Lib.hid (LV2.out.below (below_alloc w2 (.cells #[.slice (some ⟨pg,0,none⟩) N N,.slice la m lc,.slice none 0 0] 95)));obtain⟨w3,hw3⟩:∃ w3,w2.alloc (.cells #[.slice (some ⟨pg,0,none⟩) N N,.slice la m lc,.slice none 0 0] 95)=w3:=⟨_,rfl⟩;have c1:w3.cell? ⟨w2.heap.size,1,none⟩=some (.slice la m lc):=by rw[← hw3];exact(Blk.new w2 _ _).cell rfl
 rw[hw3]at S0 B3 H3 X3 RW3 LV3 ⊢;have hsb:w2.heap.size<w3.heap.size:=by rw[← hw3];simp
 obtain⟨sb,hsbd⟩:∃ sb,w2.heap.size=sb:=⟨_,rfl⟩;have HSN:Hid (own sb=none):=by show _=_;rw[← hsbd];exact HOW.out _ (Nat.le_of_lt hxl)
 rw[hsbd]at S0 hpl hxl hsb c1 ⊢;have HLN:Hid (∀ g,(Value.slice la m lc).ownBlock=some g→g<sb):=fun g hg=>by rw[← hsbd];exact LVN.out g hg
 clear hw3 hsbd B2 H2 X2 RW2 LV2 LVN HOW c1
 go_loopw [5,14] (fun _ y wr=>∃ k:Nat,k≤m∧y = .int .i64 k∧∃ hv hs,ExSt w3 D sb (.slice (some ⟨pg,0,none⟩) N N) (.slice la m lc) hv k hs wr) (fun _ y _=>m-(intOf y).toNat)
 case atStart=>exact⟨0,by omega,rfl,_,_,S0.out⟩
 case round=>
  clear S0;obtain⟨k,hk,rfl,hv,hs,hst⟩:=hrel;rename World=>wr
  obtain⟨qa,qc,rfl⟩:=hst.own.slice;have S:=Lib.hid hst;clear hst;have hwr:w3.heap.size≤wr.heap.size:=S.out.upd.size
  by_cases hlt:k<m
  ·have hlt':(k:Int)<m:=by omega
   obtain⟨l,hl⟩:∃ l,D.dirtyL[k]? = some l:=⟨_,List.getElem?_eq_getElem (by rw[HM.out];exact hlt)⟩;have hln:=HDL.out l (List.mem_of_getElem? hl);have DV:=Lib.hid (H3.out.upd S.out.upd (fun g hg e=>hg (by rw[e];exact HSN.out)));obtain⟨_,_,_,e',_,hE⟩:=(show RdSl wr 1 (.slice la m lc) m (natsI D.dirtyL)from LV3.out.upd S.out.upd (fun g hg e=>by have:=HLN.out g hg;omega))
   cases e'
   have hxl2:(natsI D.dirtyL)[k]? = some (.int .i64 l):=by simp[natsI,hl]
   obtain⟨lb,lo,rfl,hE2⟩:=rd_at hE hxl2;have c1:=hE2 k _ hxl2;have c2:=S.out.box.cell (i:=2) (v:=.slice qa k qc) rfl;have HL:=Lib.hid hl;have hsbw:sb<wr.heap.size:=by omega
   clear hE hE2 hxl2 hl;go_wp2_with fail
   go_region_law (first | (go_simp;go_at_call 130;(with_reducible refine(HH.out _ (DV.out.below ((Below.refl _ _).drew)) l hln).mono ?_);rintro r w5 ⟨u,rfl,u1,u2,u3⟩;obtain⟨ua,uc,rfl⟩:=u1.slice;have U:=Lib.hid (And.intro u1 (And.intro u2 u3));have B5:Hid (Below wr.heap.size wr w5):=((Below.refl _ _).drew).trans u3;have c2:=(S.out.box.below B5.out).cell (i:=2) (v:=.slice qa k qc) rfl;have hs5:=Nat.lt_of_lt_of_le hsbw B5.out.size;clear u1 u2 u3) | (refine step_append_sl (w:=w5.alloc (.cells #[.slice ua (D.hist l).length uc] 52)) rfl (.tmp 19) (.tmp 23) 93 rfl 52 i0 _ 1 24 Tryz.underlying93 I.out.1 I.out.2.1 I.out.2.2.1 I.out.2.2.2 rfl (by decide) (.slice qa k qc) k hs rfl (by exact(S.out.own.kept (fun g hg=>B5.out.block g (S.out.own.lt g hg))).alloc _) _ 1 [.slice ua (D.hist l).length uc] rfl (by exact RdSl.newAt w5 _ 52 1 1 _ rfl rfl) (fun x hx=>by rw[List.mem_singleton]at hx;subst hx;rfl) (by unfold maxLen;omega) (by omega) ?_;intro v1 w6 o1 g1 b1;obtain⟨va,vc,rfl⟩:=o1.slice;have S6:=Lib.hid (S.out.step HL.out U.out.1.rd (fun g hg=>⟨U.out.2.1 g hg,U.out.1.lt g hg⟩) B5.out (below_alloc w5 _) o1 g1 b1);have K6:=Lib.hid (S.out.mid (B5.out.trans ((below_alloc w5 _).mono B5.out.size)) g1);have c6:=K6.out.cell (i:=2) (v:=.slice qa k qc) rfl;have f6:=K6.out.frozen 2;clear o1 g1 b1))
   all_goals
    go_wp2_with fail
    go_roundw
    case rel=>exact⟨k+1,by omega,by go_num,_,_,S6.out⟩
    case measure=>simp[intOf];omega
  ·obtain rfl:k=m:=by omega
   have XR:=Lib.hid (X3.out.upd S.out.upd (fun e=>by have e':w.heap.size=sb:=e;omega));have RWR:=Lib.hid (RW3.out.upd S.out.upd (fun e=>by have e':pg=sb:=e;omega));have LVR:=Lib.hid (LV3.out.upd S.out.upd (fun g hg e=>by have:=HLN.out g hg;omega));have c0:=S.out.box.cell (i:=0) (v:=.slice (some ⟨pg,0,none⟩) N N) rfl;have c1:=S.out.box.cell (i:=1) (v:=.slice la k lc) rfl;have c2:=S.out.box.cell (i:=2) (v:=.slice qa k qc) rfl;have d0:=XR.out.cell (i:=0) (v:=.slice none 0 0) rfl;have d1:=XR.out.cell (i:=1) (v:=.slice none 0 0) rfl;have d2:=XR.out.cell (i:=2) (v:=.slice none 0 0) rfl;have f0:=XR.out.frozen 0;have f1:=XR.out.frozen 1;have f2:=XR.out.frozen 2;have BR:=Lib.hid (B3.out.trans (show Below w.heap.size w3 wr from⟨S.out.upd.os,S.out.upd.tape,S.out.upd.output,S.out.upd.size,fun g hg=>S.out.upd.block g (by omega) (fun e=>by have e':g=sb:=e;omega)⟩));have HU:Hid (Upd (· = w.heap.size) wr (((wr.setCell ⟨w.heap.size,0,none⟩ (.slice (some ⟨pg,0,none⟩) N N)).setCell ⟨w.heap.size,1,none⟩ (.slice la k lc)).setCell ⟨w.heap.size,2,none⟩ (.slice qa k qc))):=(((Upd.refl (· = w.heap.size) wr).setCell (fun _=>rfl) _).setCell (fun _=>rfl) _).setCell (fun _=>rfl) _;go_wp2_with fail
   refine bodyPost_ret (v:=.agg #[.slice (some ⟨pg,0,none⟩) N N,.slice la k lc,.slice qa k qc]) (by simp[results,Tryz.results40,go_sem,d0,d1,d2]) rfl ⟨pg,.slice la k lc,.slice qa k qc,hs,by rw[HN.out],?_,?_⟩
   ·refine⟨by rw[HN.out];exact RWR.out.upd HU.out (fun e=>by have e':pg=w.heap.size:=e;omega),?_,?_,fun i l hl => ?_⟩
    ·rw[HM.out]
     exact LVR.out.upd HU.out (fun g hg e=>by have:=HLG.out g hg;have e':g=w.heap.size:=e;omega)
    ·rw[HM.out]
     exact S.out.own.rd.upd HU.out (fun g hg e=>by have:=S.out.new g hg;have e':g=w.heap.size:=e;omega)
    ·obtain⟨u,r1,r2,r3⟩:=S.out.row i l (by have:=(List.getElem?_eq_some_iff.1 hl).1;rw[HM.out]at this;exact this) hl
     exact⟨u,r1,r2.upd HU.out (fun g hg e=>by have:=(r3 g hg).1;have e':g=w.heap.size:=e;omega)⟩
   ·exact((BR.out.setCell (Nat.le_refl _) _).setCell (Nat.le_refl _) _).setCell (Nat.le_refl _) _
end
end

end Go.Proofs.YtlhchkajjpefmaaGreatDoor
namespace Go.Proofs
open Go.Shelf
def Tryz.lays232_ren:Go.Shelf.Ren:=⟨fun | 232=>224 | n=>n,fun | 9=>9 | 5=>5 | 3=>3 | 4=>4 | n=>n,fun | n=>n⟩
theorem Tryz.lays232:Go.Proofs.Lays.n232 Tryz.prog Tryz.lays232_ren:={
 mixed:=by kernel_rfl
 f232:=Tryz.func224.trans (congrArg some (by kernel_rfl))
 t3:=Tryz.underlying3
 a3:=Tryz.isAgg3
 z3:=Tryz.sizeOf3
 v3:=Tryz.zeroValue3
 t4:=Tryz.underlying4
 a4:=Tryz.isAgg4
 z4:=Tryz.sizeOf4
 v4:=Tryz.zeroValue4
 t5:=Tryz.underlying5
 a5:=Tryz.isAgg5
 z5:=Tryz.sizeOf5
 v5:=Tryz.zeroValue5
 t9:=Tryz.underlying9
 a9:=Tryz.isAgg9
 z9:=Tryz.sizeOf9
 v9:=Tryz.zeroValue9}
open Go.RowKit in
theorem Tryz.strings_trimRightByte(s:ByteArray)(c:UInt8)(w:World)(hs:s.size≤9223372036854775807) :
  Calls Tryz.prog 224 #[.string s,.int .u8 c.toNat] w fun e w'=>e = .returned (.string ⟨(Lib.trimRightB s.data.toList c).toArray⟩)∧w'=w:=Any.strings_trimRightByte Tryz.lays232 s c w hs
def Tryz.lays162_ren:Go.Shelf.Ren:=⟨fun | 162=>203 | 232=>224 | 227=>225 | 234=>226 | 236=>227 | 228=>246 | 271=>247 | 151=>248 | 120=>259 | 197=>260 | 152=>261 | 260=>264 | 137=>265 | 119=>266 | 224=>267 | 225=>268 | 217=>269 | 266=>270 | n=>n,fun | 9=>9 | 4=>4 | 3=>3 | 5=>5 | 117=>302 | 116=>301 | 0=>0 | 124=>305 | 21=>21 | 105=>319 | 46=>203 | 119=>336 | 139=>339 | 138=>338 | n=>n,fun | 3=>1 | 4=>2 | n=>n⟩
theorem Tryz.lays162:Go.Proofs.Lays.n162 Tryz.prog Tryz.lays162_ren:={
 mixed:=by kernel_rfl
 f119:=Tryz.func266.trans (congrArg some (by kernel_rfl))
 f120:=Tryz.func259.trans (congrArg some (by kernel_rfl))
 f137:=Tryz.func265.trans (congrArg some (by kernel_rfl))
 f151:=Tryz.func248.trans (congrArg some (by kernel_rfl))
 f152:=Tryz.func261.trans (congrArg some (by kernel_rfl))
 f162:=Tryz.func203.trans (congrArg some (by kernel_rfl))
 f197:=Tryz.func260.trans (congrArg some (by kernel_rfl))
 f217:=Tryz.func269.trans (congrArg some (by kernel_rfl))
 f224:=Tryz.func267.trans (congrArg some (by kernel_rfl))
 f225:=Tryz.func268.trans (congrArg some (by kernel_rfl))
 f227:=Tryz.func225.trans (congrArg some (by kernel_rfl))
 f228:=Tryz.func246.trans (congrArg some (by kernel_rfl))
 f232:=Tryz.func224.trans (congrArg some (by kernel_rfl))
 f234:=Tryz.func226.trans (congrArg some (by kernel_rfl))
 f236:=Tryz.func227.trans (congrArg some (by kernel_rfl))
 f260:=Tryz.func264.trans (congrArg some (by kernel_rfl))
 f266:=Tryz.func270.trans (congrArg some (by kernel_rfl))
 f271:=Tryz.func247.trans (congrArg some (by kernel_rfl))
 t0:=Tryz.underlying0
 a0:=Tryz.isAgg0
 z0:=Tryz.sizeOf0
 v0:=Tryz.zeroValue0
 t3:=Tryz.underlying3
 a3:=Tryz.isAgg3
 z3:=Tryz.sizeOf3
 v3:=Tryz.zeroValue3
 t4:=Tryz.underlying4
 a4:=Tryz.isAgg4
 z4:=Tryz.sizeOf4
 v4:=Tryz.zeroValue4
 t5:=Tryz.underlying5
 a5:=Tryz.isAgg5
 z5:=Tryz.sizeOf5
 v5:=Tryz.zeroValue5
 t9:=Tryz.underlying9
 a9:=Tryz.isAgg9
 z9:=Tryz.sizeOf9
 v9:=Tryz.zeroValue9
 t21:=Tryz.underlying21
 a21:=Tryz.isAgg21
 z21:=Tryz.sizeOf21
 v21:=Tryz.zeroValue21
 t46:=Tryz.underlying203
 a46:=Tryz.isAgg203
 z46:=Tryz.sizeOf203
 v46:=Tryz.zeroValue203
 t105:=Tryz.underlying319
 a105:=Tryz.isAgg319
 z105:=Tryz.sizeOf319
 v105:=Tryz.zeroValue319
 t116:=Tryz.underlying301
 a116:=Tryz.isAgg301
 z116:=Tryz.sizeOf301
 t117:=Tryz.underlying302
 a117:=Tryz.isAgg302
 z117:=Tryz.sizeOf302
 v117:=Tryz.zeroValue302
 t119:=Tryz.underlying336
 a119:=Tryz.isAgg336
 z119:=Tryz.sizeOf336
 t124:=Tryz.underlying305
 a124:=Tryz.isAgg305
 z124:=Tryz.sizeOf305
 v124:=Tryz.zeroValue305
 t138:=Tryz.underlying338
 a138:=Tryz.isAgg338
 z138:=Tryz.sizeOf338
 v138:=Tryz.zeroValue338
 t139:=Tryz.underlying339
 a139:=Tryz.isAgg339
 z139:=Tryz.sizeOf339
 v139:=Tryz.zeroValue339
 g3:=by kernel_rfl
 g4:=by kernel_rfl}
open Go.RowKit in
theorem Tryz.strings_TrimRight_one(s:ByteArray)(c:UInt8)(hc:c.toNat<128)(w:World)(hs:s.size≤9223372036854775807) :
  Calls Tryz.prog 203 #[.string s,.string ⟨#[c]⟩] w fun e w'=>e = .returned (.string ⟨(Lib.trimRightB s.data.toList c).toArray⟩)∧w'=w:=Any.strings_TrimRight_one Tryz.lays162 s c hc w hs
def Tryz.lays119_ren:Go.Shelf.Ren:=⟨fun | 119=>266 | n=>n,fun | 21=>21 | 4=>4 | n=>n,fun | n=>n⟩
theorem Tryz.lays119:Go.Proofs.Lays.n119 Tryz.prog Tryz.lays119_ren:={
 mixed:=by kernel_rfl
 f119:=Tryz.func266.trans (congrArg some (by kernel_rfl))
 t4:=Tryz.underlying4
 a4:=Tryz.isAgg4
 z4:=Tryz.sizeOf4
 v4:=Tryz.zeroValue4
 t21:=Tryz.underlying21
 a21:=Tryz.isAgg21
 z21:=Tryz.sizeOf21
 v21:=Tryz.zeroValue21}
theorem Tryz.utf8_ValidRune(r:Int)(w:World) :
  Calls Tryz.prog 266 #[.int .i32 r] w fun e w'=>e = .returned (.bool (Lib.validRune r))∧w'=w:=Any.utf8_ValidRune Tryz.lays119 r w
def Tryz.lays120_ren:Go.Shelf.Ren:=⟨fun | 120=>259 | n=>n,fun | 5=>5 | 4=>4 | n=>n,fun | n=>n⟩
theorem Tryz.lays120:Go.Proofs.Lays.n120 Tryz.prog Tryz.lays120_ren:={
 mixed:=by kernel_rfl
 f120:=Tryz.func259.trans (congrArg some (by kernel_rfl))
 t4:=Tryz.underlying4
 a4:=Tryz.isAgg4
 z4:=Tryz.sizeOf4
 v4:=Tryz.zeroValue4
 t5:=Tryz.underlying5
 a5:=Tryz.isAgg5
 z5:=Tryz.sizeOf5
 v5:=Tryz.zeroValue5}
theorem Tryz.utf8_RuneStart(b:Int)(w:World)(h0:0≤b)(h1:b<256) :
  Calls Tryz.prog 259 #[.int .u8 b] w fun e w'=>e = .returned (.bool (Lib.runeStart b))∧w'=w:=Any.utf8_RuneStart Tryz.lays120 b w h0 h1
def Tryz.lays128_ren:Go.Shelf.Ren:=⟨fun | 128=>244 | n=>n,fun | 51=>208 | 3=>3 | 4=>4 | 46=>203 | 5=>5 | 9=>9 | n=>n,fun | n=>n⟩
theorem Tryz.lays128:Go.Proofs.Lays.n128 Tryz.prog Tryz.lays128_ren:={
 mixed:=by kernel_rfl
 f128:=Tryz.func244.trans (congrArg some (by kernel_rfl))
 t3:=Tryz.underlying3
 a3:=Tryz.isAgg3
 z3:=Tryz.sizeOf3
 v3:=Tryz.zeroValue3
 t4:=Tryz.underlying4
 a4:=Tryz.isAgg4
 z4:=Tryz.sizeOf4
 v4:=Tryz.zeroValue4
 t5:=Tryz.underlying5
 a5:=Tryz.isAgg5
 z5:=Tryz.sizeOf5
 v5:=Tryz.zeroValue5
 t9:=Tryz.underlying9
 a9:=Tryz.isAgg9
 z9:=Tryz.sizeOf9
 v9:=Tryz.zeroValue9
 t46:=Tryz.underlying203
 a46:=Tryz.isAgg203
 z46:=Tryz.sizeOf203
 v46:=Tryz.zeroValue203
 t51:=Tryz.underlying208
 a51:=Tryz.isAgg208
 z51:=Tryz.sizeOf208
 v51:=Tryz.zeroValue208}
theorem Tryz.bits_Len32(x:Int)(w:World)(h0:0≤x)(h1:x≤4294967295) :
  Calls Tryz.prog 244 #[.int .u32 x] w fun e w'=>e = .returned (.int .i64 (Lib.bitLen x.toNat))∧w'=w:=Any.bits_Len32 Tryz.lays128 x w h0 h1
def Tryz.lays125_ren:Go.Shelf.Ren:=⟨fun | 125=>221 | 128=>244 | 129=>245 | n=>n,fun | 46=>203 | 3=>3 | 51=>208 | 53=>31 | 4=>4 | 5=>5 | 9=>9 | n=>n,fun | n=>n⟩
theorem Tryz.lays125:Go.Proofs.Lays.n125 Tryz.prog Tryz.lays125_ren:={
 mixed:=by kernel_rfl
 f125:=Tryz.func221.trans (congrArg some (by kernel_rfl))
 f128:=Tryz.func244.trans (congrArg some (by kernel_rfl))
 f129:=Tryz.func245.trans (congrArg some (by kernel_rfl))
 t3:=Tryz.underlying3
 a3:=Tryz.isAgg3
 z3:=Tryz.sizeOf3
 v3:=Tryz.zeroValue3
 t4:=Tryz.underlying4
 a4:=Tryz.isAgg4
 z4:=Tryz.sizeOf4
 v4:=Tryz.zeroValue4
 t5:=Tryz.underlying5
 a5:=Tryz.isAgg5
 z5:=Tryz.sizeOf5
 v5:=Tryz.zeroValue5
 t9:=Tryz.underlying9
 a9:=Tryz.isAgg9
 z9:=Tryz.sizeOf9
 v9:=Tryz.zeroValue9
 t46:=Tryz.underlying203
 a46:=Tryz.isAgg203
 z46:=Tryz.sizeOf203
 v46:=Tryz.zeroValue203
 t51:=Tryz.underlying208
 a51:=Tryz.isAgg208
 z51:=Tryz.sizeOf208
 v51:=Tryz.zeroValue208
 t53:=Tryz.underlying31
 a53:=Tryz.isAgg31
 z53:=Tryz.sizeOf31
 v53:=Tryz.zeroValue31}
theorem Tryz.bits_Len(x:Int)(w:World)(h0:0≤x)(h1:x≤18446744073709551615) :
  Calls Tryz.prog 221 #[.int .u64 x] w fun e w'=>e = .returned (.int .i64 (Lib.bitLen x.toNat))∧w'=w:=Any.bits_Len Tryz.lays125 x w h0 h1
def Tryz.lays137_ren:Go.Shelf.Ren:=⟨fun | 137=>265 | 217=>269 | 266=>270 | n=>n,fun | 9=>9 | 5=>5 | 3=>3 | n=>n,fun | n=>n⟩
theorem Tryz.lays137:Go.Proofs.Lays.n137 Tryz.prog Tryz.lays137_ren:={
 mixed:=by kernel_rfl
 f137:=Tryz.func265.trans (congrArg some (by kernel_rfl))
 f217:=Tryz.func269.trans (congrArg some (by kernel_rfl))
 f266:=Tryz.func270.trans (congrArg some (by kernel_rfl))
 t3:=Tryz.underlying3
 a3:=Tryz.isAgg3
 z3:=Tryz.sizeOf3
 v3:=Tryz.zeroValue3
 t5:=Tryz.underlying5
 a5:=Tryz.isAgg5
 z5:=Tryz.sizeOf5
 v5:=Tryz.zeroValue5
 t9:=Tryz.underlying9
 a9:=Tryz.isAgg9
 z9:=Tryz.sizeOf9
 v9:=Tryz.zeroValue9}
open Go.RowKit in
theorem Tryz.strings_IndexByte(s:ByteArray)(c:Int)(w:World) :
  Calls Tryz.prog 265 #[.string s,.int .u8 c] w fun e w'=>e = .returned (.int .i64 (Lib.indexByte s.data.toList c.toNat.toUInt8))∧w'=w:=Any.strings_IndexByte Tryz.lays137 s c w
def Tryz.lays129_ren:Go.Shelf.Ren:=⟨fun | 129=>245 | n=>n,fun | 53=>31 | 3=>3 | 4=>4 | 46=>203 | 5=>5 | 9=>9 | n=>n,fun | n=>n⟩
theorem Tryz.lays129:Go.Proofs.Lays.n129 Tryz.prog Tryz.lays129_ren:={
 mixed:=by kernel_rfl
 f129:=Tryz.func245.trans (congrArg some (by kernel_rfl))
 t3:=Tryz.underlying3
 a3:=Tryz.isAgg3
 z3:=Tryz.sizeOf3
 v3:=Tryz.zeroValue3
 t4:=Tryz.underlying4
 a4:=Tryz.isAgg4
 z4:=Tryz.sizeOf4
 v4:=Tryz.zeroValue4
 t5:=Tryz.underlying5
 a5:=Tryz.isAgg5
 z5:=Tryz.sizeOf5
 v5:=Tryz.zeroValue5
 t9:=Tryz.underlying9
 a9:=Tryz.isAgg9
 z9:=Tryz.sizeOf9
 v9:=Tryz.zeroValue9
 t46:=Tryz.underlying203
 a46:=Tryz.isAgg203
 z46:=Tryz.sizeOf203
 v46:=Tryz.zeroValue203
 t53:=Tryz.underlying31
 a53:=Tryz.isAgg31
 z53:=Tryz.sizeOf31
 v53:=Tryz.zeroValue31}
theorem Tryz.bits_Len64(x:Int)(w:World)(h0:0≤x)(h1:x≤18446744073709551615) :
  Calls Tryz.prog 245 #[.int .u64 x] w fun e w'=>e = .returned (.int .i64 (Lib.bitLen x.toNat))∧w'=w:=Any.bits_Len64 Tryz.lays129 x w h0 h1
def Tryz.lays217_ren:Go.Shelf.Ren:=⟨fun | 217=>269 | 266=>270 | n=>n,fun | 9=>9 | 5=>5 | 3=>3 | n=>n,fun | n=>n⟩
theorem Tryz.lays217:Go.Proofs.Lays.n217 Tryz.prog Tryz.lays217_ren:={
 mixed:=by kernel_rfl
 f217:=Tryz.func269.trans (congrArg some (by kernel_rfl))
 f266:=Tryz.func270.trans (congrArg some (by kernel_rfl))
 t3:=Tryz.underlying3
 a3:=Tryz.isAgg3
 z3:=Tryz.sizeOf3
 v3:=Tryz.zeroValue3
 t5:=Tryz.underlying5
 a5:=Tryz.isAgg5
 z5:=Tryz.sizeOf5
 v5:=Tryz.zeroValue5
 t9:=Tryz.underlying9
 a9:=Tryz.isAgg9
 z9:=Tryz.sizeOf9
 v9:=Tryz.zeroValue9}
open Go.RowKit Go.Lib in
theorem Tryz.stringslite_IndexByte(s:ByteArray)(c:Int)(w:World) :
  Calls Tryz.prog 269 #[.string s,.int .u8 c] w fun e w'=>e = .returned (.int .i64 (Lib.indexByte s.data.toList c.toNat.toUInt8))∧w'=w:=Any.stringslite_IndexByte Tryz.lays217 s c w
def Tryz.lays224_ren:Go.Shelf.Ren:=⟨fun | 224=>267 | n=>n,fun | 3=>3 | n=>n,fun | n=>n⟩
theorem Tryz.lays224:Go.Proofs.Lays.n224 Tryz.prog Tryz.lays224_ren:={
 mixed:=by kernel_rfl
 f224:=Tryz.func267.trans (congrArg some (by kernel_rfl))
 t3:=Tryz.underlying3
 a3:=Tryz.isAgg3
 z3:=Tryz.sizeOf3
 v3:=Tryz.zeroValue3}
open Go.RowKit Go.Lib in
theorem Tryz.bytealg_Cutover(n:Int)(h0:0≤n)(h1:n<4611686018427387904)(w:World) :
  Calls Tryz.prog 267 #[.int .i64 n] w fun e w'=>e = .returned (.int .i64 ((n+16)/8))∧w'=w:=Any.bytealg_Cutover Tryz.lays224 n h0 h1 w
def Tryz.lays152_ren:Go.Shelf.Ren:=⟨fun | 152=>261 | 137=>265 | 119=>266 | 224=>267 | 225=>268 | 217=>269 | 266=>270 | n=>n,fun | 9=>9 | 21=>21 | 3=>3 | 4=>4 | 5=>5 | 0=>0 | 46=>203 | n=>n,fun | n=>n⟩
theorem Tryz.lays152:Go.Proofs.Lays.n152 Tryz.prog Tryz.lays152_ren:={
 mixed:=by kernel_rfl
 f119:=Tryz.func266.trans (congrArg some (by kernel_rfl))
 f137:=Tryz.func265.trans (congrArg some (by kernel_rfl))
 f152:=Tryz.func261.trans (congrArg some (by kernel_rfl))
 f217:=Tryz.func269.trans (congrArg some (by kernel_rfl))
 f224:=Tryz.func267.trans (congrArg some (by kernel_rfl))
 f225:=Tryz.func268.trans (congrArg some (by kernel_rfl))
 f266:=Tryz.func270.trans (congrArg some (by kernel_rfl))
 t0:=Tryz.underlying0
 a0:=Tryz.isAgg0
 z0:=Tryz.sizeOf0
 v0:=Tryz.zeroValue0
 t3:=Tryz.underlying3
 a3:=Tryz.isAgg3
 z3:=Tryz.sizeOf3
 v3:=Tryz.zeroValue3
 t4:=Tryz.underlying4
 a4:=Tryz.isAgg4
 z4:=Tryz.sizeOf4
 v4:=Tryz.zeroValue4
 t5:=Tryz.underlying5
 a5:=Tryz.isAgg5
 z5:=Tryz.sizeOf5
 v5:=Tryz.zeroValue5
 t9:=Tryz.underlying9
 a9:=Tryz.isAgg9
 z9:=Tryz.sizeOf9
 v9:=Tryz.zeroValue9
 t21:=Tryz.underlying21
 a21:=Tryz.isAgg21
 z21:=Tryz.sizeOf21
 v21:=Tryz.zeroValue21
 t46:=Tryz.underlying203
 a46:=Tryz.isAgg203
 z46:=Tryz.sizeOf203
 v46:=Tryz.zeroValue203}
open Go.RowKit Go.Lib in
theorem Tryz.strings_IndexRune_ascii(s:ByteArray)(r:Int)(w:World)(h0:0≤r)(h1:r<128) :
  Calls Tryz.prog 261 #[.string s,.int .i32 r] w fun e w'=>e = .returned (.int .i64 (Lib.indexByte s.data.toList r.toNat.toUInt8))∧w'=w:=Any.strings_IndexRune_ascii Tryz.lays152 s r w h0 h1
def Tryz.lays151_ren:Go.Shelf.Ren:=⟨fun | 151=>248 | 152=>261 | 137=>265 | 119=>266 | 224=>267 | 225=>268 | 217=>269 | 266=>270 | n=>n,fun | 9=>9 | 21=>21 | 4=>4 | 3=>3 | 5=>5 | 0=>0 | 46=>203 | n=>n,fun | n=>n⟩
theorem Tryz.lays151:Go.Proofs.Lays.n151 Tryz.prog Tryz.lays151_ren:={
 mixed:=by kernel_rfl
 f119:=Tryz.func266.trans (congrArg some (by kernel_rfl))
 f137:=Tryz.func265.trans (congrArg some (by kernel_rfl))
 f151:=Tryz.func248.trans (congrArg some (by kernel_rfl))
 f152:=Tryz.func261.trans (congrArg some (by kernel_rfl))
 f217:=Tryz.func269.trans (congrArg some (by kernel_rfl))
 f224:=Tryz.func267.trans (congrArg some (by kernel_rfl))
 f225:=Tryz.func268.trans (congrArg some (by kernel_rfl))
 f266:=Tryz.func270.trans (congrArg some (by kernel_rfl))
 t0:=Tryz.underlying0
 a0:=Tryz.isAgg0
 z0:=Tryz.sizeOf0
 v0:=Tryz.zeroValue0
 t3:=Tryz.underlying3
 a3:=Tryz.isAgg3
 z3:=Tryz.sizeOf3
 v3:=Tryz.zeroValue3
 t4:=Tryz.underlying4
 a4:=Tryz.isAgg4
 z4:=Tryz.sizeOf4
 v4:=Tryz.zeroValue4
 t5:=Tryz.underlying5
 a5:=Tryz.isAgg5
 z5:=Tryz.sizeOf5
 v5:=Tryz.zeroValue5
 t9:=Tryz.underlying9
 a9:=Tryz.isAgg9
 z9:=Tryz.sizeOf9
 v9:=Tryz.zeroValue9
 t21:=Tryz.underlying21
 a21:=Tryz.isAgg21
 z21:=Tryz.sizeOf21
 v21:=Tryz.zeroValue21
 t46:=Tryz.underlying203
 a46:=Tryz.isAgg203
 z46:=Tryz.sizeOf203
 v46:=Tryz.zeroValue203}
open Go.RowKit Go.Lib in
theorem Tryz.strings_ContainsRune_ascii(s:ByteArray)(r:Int)(w:World)(h0:0≤r)(h1:r<128) :
  Calls Tryz.prog 248 #[.string s,.int .i32 r] w fun e w'=>e = .returned (.bool (decide (0≤Lib.indexByte s.data.toList r.toNat.toUInt8)))∧w'=w:=Any.strings_ContainsRune_ascii Tryz.lays151 s r w h0 h1
def Tryz.lays227_ren:Go.Shelf.Ren:=⟨fun | 227=>225 | n=>n,fun | 9=>9 | 116=>301 | 4=>4 | 0=>0 | 3=>3 | 5=>5 | n=>n,fun | n=>n⟩
theorem Tryz.lays227:Go.Proofs.Lays.n227 Tryz.prog Tryz.lays227_ren:={
 mixed:=by kernel_rfl
 f227:=Tryz.func225.trans (congrArg some (by kernel_rfl))
 t0:=Tryz.underlying0
 a0:=Tryz.isAgg0
 z0:=Tryz.sizeOf0
 v0:=Tryz.zeroValue0
 t3:=Tryz.underlying3
 a3:=Tryz.isAgg3
 z3:=Tryz.sizeOf3
 v3:=Tryz.zeroValue3
 t4:=Tryz.underlying4
 a4:=Tryz.isAgg4
 z4:=Tryz.sizeOf4
 v4:=Tryz.zeroValue4
 t5:=Tryz.underlying5
 a5:=Tryz.isAgg5
 z5:=Tryz.sizeOf5
 v5:=Tryz.zeroValue5
 t9:=Tryz.underlying9
 a9:=Tryz.isAgg9
 z9:=Tryz.sizeOf9
 v9:=Tryz.zeroValue9
 t116:=Tryz.underlying301
 a116:=Tryz.isAgg301
 z116:=Tryz.sizeOf301}
open Go.RowKit Go.Lib in
theorem Tryz.strings_makeASCIISet(hv116:∀ w,(zeroValue 301).run Tryz.prog w = .ok (.agg (Array.replicate 256 (.bool false))) w)(chars:ByteArray)(w:World)(hs:chars.size<4294967281)(hascii:∀ (j:Nat) b,chars.data.toList[j]? = some b→b.toNat<128) :
  Calls Tryz.prog 225 #[.string chars] w fun e w'=>e = .returned (.tuple #[.agg (Lib.setCells chars.data.toList),.bool true])∧w'=w.alloc (.cells (Lib.setCells chars.data.toList) 301):=Any.strings_makeASCIISet Tryz.lays227 hv116 (by kernel_rfl) chars w hs hascii
def Tryz.lays228_ren:Go.Shelf.Ren:=⟨fun | 228=>246 | n=>n,fun | 124=>305 | 5=>5 | 4=>4 | 0=>0 | 116=>301 | n=>n,fun | n=>n⟩
theorem Tryz.lays228:Go.Proofs.Lays.n228 Tryz.prog Tryz.lays228_ren:={
 mixed:=by kernel_rfl
 f228:=Tryz.func246.trans (congrArg some (by kernel_rfl))
 t0:=Tryz.underlying0
 a0:=Tryz.isAgg0
 z0:=Tryz.sizeOf0
 v0:=Tryz.zeroValue0
 t4:=Tryz.underlying4
 a4:=Tryz.isAgg4
 z4:=Tryz.sizeOf4
 v4:=Tryz.zeroValue4
 t5:=Tryz.underlying5
 a5:=Tryz.isAgg5
 z5:=Tryz.sizeOf5
 v5:=Tryz.zeroValue5
 t116:=Tryz.underlying301
 a116:=Tryz.isAgg301
 z116:=Tryz.sizeOf301
 t124:=Tryz.underlying305
 a124:=Tryz.isAgg305
 z124:=Tryz.sizeOf305
 v124:=Tryz.zeroValue305}
open Go.RowKit Go.Lib in
theorem Tryz.asciiSet_contains(b:Nat)(x:UInt8)(v:Bool)(w:World)(hc:w.cell? ⟨b,x.toNat,none⟩=some (.bool v)) :
  Calls Tryz.prog 246 #[.pointer (some ⟨b,0,none⟩),.int .u8 x.toNat] w fun e w'=>e = .returned (.bool v)∧w'=w:=Any.asciiSet_contains Tryz.lays228 b x v w hc
def Tryz.lays264_ren:Go.Shelf.Ren:=⟨fun | 264=>131 | n=>n,fun | 53=>31 | 46=>203 | n=>n,fun | n=>n⟩
theorem Tryz.lays264:Go.Proofs.Lays.n264 Tryz.prog Tryz.lays264_ren:={
 mixed:=by kernel_rfl
 f264:=Tryz.func131.trans (congrArg some (by kernel_rfl))
 t46:=Tryz.underlying203
 a46:=Tryz.isAgg203
 z46:=Tryz.sizeOf203
 v46:=Tryz.zeroValue203
 t53:=Tryz.underlying31
 a53:=Tryz.isAgg31
 z53:=Tryz.sizeOf31
 v53:=Tryz.zeroValue31}
open Go.RowKit Go.Lib in
theorem Tryz.bits_Mul64(x y:Nat)(hx:x<18446744073709551616)(hy:y<18446744073709551616)(w:World) :
  Calls Tryz.prog 131 #[.int .u64 x,.int .u64 y] w fun e w'=>e = .returned (.tuple #[.int .u64 ((x*y/18446744073709551616:Nat):Int),.int .u64 ((x*y%18446744073709551616:Nat):Int)])∧w'=w:=Any.bits_Mul64 Tryz.lays264 x y hx hy w
def Tryz.lays260_ren:Go.Shelf.Ren:=⟨fun | 260=>264 | n=>n,fun | 9=>9 | 21=>21 | 3=>3 | 4=>4 | 5=>5 | 119=>336 | 0=>0 | 46=>203 | 139=>339 | 138=>338 | n=>n,fun | 3=>1 | 4=>2 | n=>n⟩
theorem Tryz.lays260:Go.Proofs.Lays.n260 Tryz.prog Tryz.lays260_ren:={
 mixed:=by kernel_rfl
 f260:=Tryz.func264.trans (congrArg some (by kernel_rfl))
 t0:=Tryz.underlying0
 a0:=Tryz.isAgg0
 z0:=Tryz.sizeOf0
 v0:=Tryz.zeroValue0
 t3:=Tryz.underlying3
 a3:=Tryz.isAgg3
 z3:=Tryz.sizeOf3
 v3:=Tryz.zeroValue3
 t4:=Tryz.underlying4
 a4:=Tryz.isAgg4
 z4:=Tryz.sizeOf4
 v4:=Tryz.zeroValue4
 t5:=Tryz.underlying5
 a5:=Tryz.isAgg5
 z5:=Tryz.sizeOf5
 v5:=Tryz.zeroValue5
 t9:=Tryz.underlying9
 a9:=Tryz.isAgg9
 z9:=Tryz.sizeOf9
 v9:=Tryz.zeroValue9
 t21:=Tryz.underlying21
 a21:=Tryz.isAgg21
 z21:=Tryz.sizeOf21
 v21:=Tryz.zeroValue21
 t46:=Tryz.underlying203
 a46:=Tryz.isAgg203
 z46:=Tryz.sizeOf203
 v46:=Tryz.zeroValue203
 t119:=Tryz.underlying336
 a119:=Tryz.isAgg336
 z119:=Tryz.sizeOf336
 t138:=Tryz.underlying338
 a138:=Tryz.isAgg338
 z138:=Tryz.sizeOf338
 v138:=Tryz.zeroValue338
 t139:=Tryz.underlying339
 a139:=Tryz.isAgg339
 z139:=Tryz.sizeOf339
 v139:=Tryz.zeroValue339
 g3:=by kernel_rfl
 g4:=by kernel_rfl}
open Go.RowKit Go.Lib in
theorem Tryz.utf8_decodeRuneInStringSlow(s:ByteArray)(w:World)(hT:Lib.Utf8Tabs 1 2 w) :
  Calls Tryz.prog 264 #[.string s] w fun e w'=>e = .returned (.tuple #[.int .i32 (Lib.decodeGo s).1,.int .i64 (Lib.decodeGo s).2])∧Below w.heap.size w w':=Any.utf8_decodeRuneInStringSlow Tryz.lays260 s w hT
end Go.Proofs
namespace Go.Proofs.YtlhchkajjpefmaaGreatDoor

section
open Go.RowKit
attribute [local go_sem ↓] Go.wp_at_zero Go.wp_at_succ
section
variable{w:World}{v:DV}{own:Nat→Option Role}{D:Dev}{pg N:Nat}{lv hv:Value}{hs:List Value}
theorem bases_at(D:Dev)(k l:Nat)(h:D.dirtyL[k]? = some l):(basesL D).take (k+1)=(basesL D).take k ++ [(D.hist l).length+1]∧(basesL D)[k]? = some ((D.hist l).length+1):=by
 have h1:(basesL D)[k]? = some ((D.hist l).length+1):=by unfold basesL;rw[List.getElem?_map,h];rfl
 exact⟨by rw[List.take_add_one,h1];rfl,h1⟩
theorem basesL_len(D:Dev):(basesL D).length=D.dirtyL.length:=by unfold basesL;rw[List.length_map]
theorem total_any(h:ExAt D pg lv hv hs w)(hp:prodN (basesL D)<18446744073709551616)(hm:D.dirtyL.length≤1000000)(hq:∀ l∈D.dirtyL,(D.hist l).length≤1000000000) :
  Calls Tryz.prog 41 #[.agg #[.slice (some ⟨pg,0,none⟩) N N,lv,hv]] w fun r w'=>r = .returned (.tuple #[.int .u64 (prodN (basesL D):Nat),.bool true])∧Below w.heap.size w w':=by
 have K0:=Lib.hid (Blk.new w #[.slice (some ⟨pg,0,none⟩) N N,lv,hv] 95);have B0:=Lib.hid (below_alloc w (.cells #[.slice (some ⟨pg,0,none⟩) N N,lv,hv] 95));have H:=Lib.hid (h.next B0.out);have HQ:=Lib.hid hq;have HP:=Lib.hid hp;have HLE:=Lib.hid (fun k=>prodN_le (basesL D) (basesL_pos D) k);have HBA:=Lib.hid (bases_at D);have HALL:Hid ((basesL D).take D.dirtyL.length=basesL D):=List.take_of_length_le (by rw[basesL_len];exact Nat.le_refl _);obtain⟨m,hmm⟩:∃ m,D.dirtyL.length=m:=⟨_,rfl⟩;have HM:=Lib.hid hmm;have hh:=h.hist;rw[hmm]at hm HALL hh;obtain⟨_,ha,hc,rfl,hmc,_⟩:=hh;clear h hp hq hmm
 go_enter Tryz.func41,Tryz.ntmps41
 go_wp2_with fail
 go_loop [4,6,7,8,12] (fun z _ _ _ y=>∃ k:Nat,k≤m∧y = .int .i64 k∧z = .int .u64 (prodN ((basesL D).take k):Nat)) (fun _ _ _ _ y=>m-(intOf y).toNat)
 case atStart=>exact⟨0,by omega,rfl,rfl⟩
 case round=>
  obtain⟨k,hk,rfl,rfl⟩:=hrel
  by_cases hlt:k<m
  ·have hlt':(k:Int)<m:=by omega
   obtain⟨l,hl⟩:∃ l,D.dirtyL[k]? = some l:=⟨_,List.getElem?_eq_getElem (by rw[HM.out];exact hlt)⟩;obtain⟨u,r1,r2⟩:=H.out.row k l hl;have hq1:=HQ.out l (List.mem_of_getElem? hl);obtain⟨hb1,_⟩:=HBA.out k l hl;have hle:=HLE.out (k+1);have hle0:=HLE.out k;have hp:=HP.out;obtain⟨_,_,_,e',_,hE⟩:=H.out.hist
   cases e'
   obtain⟨hb,ho,rfl,hE2⟩:=rd_at hE r1;have c1:=hE2 k _ r1;obtain⟨_,ua,uc,rfl,_,_⟩:=r2;obtain⟨q,hqd⟩:∃ q,(D.hist l).length=q:=⟨_,rfl⟩;rw[hqd]at c1 hq1 hb1;rw[hb1,prodN_snoc]at hle;have HNX:Hid (prodN ((basesL D).take (k+1))=prodN ((basesL D).take k)*(q+1)):=by show _=_;rw[hb1,prodN_snoc]
   obtain⟨P,hP⟩:∃ P,prodN ((basesL D).take k)=P:=⟨_,rfl⟩;rw[hP]at hle hle0 HNX ⊢;have hP64:P<18446744073709551616:=by omega
   have hPq:P*(q+1)<18446744073709551616:=by omega
   have ga1:IntKind.u64.wrap (q:Int)=(q:Int):=IntWalk.u64_in _ (by omega);have ga2:IntKind.u64.wrap ((q:Int)+1)=(q:Int)+1:=IntWalk.u64_in _ (by omega);have HMU:Hid (∀ wx,Calls Tryz.prog 131 #[.int .u64 (P:Int),.int .u64 ((q:Int)+1)] wx fun e w'=>e = .returned (.tuple #[.int .u64 0,.int .u64 ((P*(q+1):Nat):Int)])∧wx=w'):=fun wx=>by
    have:=Tryz.bits_Mul64 P (q+1) hP64 (by omega) wx;rw[Nat.div_eq_of_lt hPq,Nat.mod_eq_of_lt hPq,show(((q+1:Nat)):Int)=(q:Int)+1 by omega]at this;exact this.mono fun _ _ ⟨h1,h2⟩=>⟨h1,h2.symm⟩
   clear hE hE2 r1 hl hqd hb1 hP hp hle hle0;go_wp2_with fail
   (with_reducible refine(HMU.out _).mono ?_)
   rintro r w' ⟨rfl,rfl⟩;go_wp2_with fail
   go_round
   case rel=>exact⟨k+1,by omega,by go_num,by rw[HNX.out];simp⟩
   case measure=>simp[intOf];omega
  ·obtain rfl:k=m:=by omega
   rw[HALL.out];go_wp2_with fail
   go_ret2
   exact⟨rfl,B0.out⟩
theorem count_any(h:IsDev w v own D)(hvb:D.VB)(hx:D.exec<1000000000)(hp:prodN (basesL D)≤4611686018427387904)(hq:∀ l∈D.dirtyL,(D.hist l).length≤1000000000) :
  Calls Tryz.prog 13 #[.pointer (some ⟨v.db,0,none⟩)] w fun r w'=>r = .returned (.tuple #[.int .u64 (prodN (basesL D):Nat),.bool true])∧Below w.heap.size w w':=by
 have hdl:D.dirtyL.length≤1000000:=by
  have h1:D.dirtyL.length≤D.n:=by unfold Dev.dirtyL;exact filt_len D D.n
  have:=h.wf.le;omega
 have HE:=Lib.hid (examine_any h hvb (by omega));have HT:=Lib.hid (fun(wx:World) (pg:Nat) (lv hv:Value) (hs:List Value) (hE:ExAt D pg lv hv hs wx)=>total_any (N:=64*D.n) hE (by omega) hdl hq);obtain⟨P,hP⟩:∃ P,prodN (basesL D)=P:=⟨_,rfl⟩;rw[hP]at hp HT ⊢;have hp2:¬ (4611686018427387904:Int)<(P:Int):=by omega
 clear h hvb hx hq hdl hP hp
 go_enter Tryz.func13,Tryz.ntmps13
 go_wp2_with fail
 (with_reducible refine HE.out.mono ?_)
 rintro r w1 ⟨pg,lv,hv,hs,rfl,hE,b1⟩;have HT1:=Lib.hid (HT.out _ _ _ _ _ hE);have B1:=Lib.hid b1;clear hE b1 HE HT;go_wp2_with fail
 (with_reducible refine HT1.out.mono ?_)
 rintro r w2 ⟨rfl,b2⟩;have B2:=Lib.hid (B1.out.trans (b2.mono B1.out.size));clear b2 HT1;go_wp2_with fail
 go_ret2
 exact⟨rfl,B2.out⟩
theorem mkInts(wx:World)(n:Nat)(hn:n≤1000000):(Instr.makeSlice 60 (.int .i64 n) (.int .i64 n)).run Tryz.prog wx = .ok (.slice (some ⟨wx.heap.size,0,none⟩) n n) (wx.alloc (.cells (madeCells #[.int .i64 0] n) 3)):=by
 obtain⟨i0,hi,hz0,hz1,hz2⟩:=info_parts infoInt;have:=run_make (P:=Tryz.prog) wx 60 3 i0 _ Tryz.underlying60 hi hz0 .i64 .i64 n n (by omega) (by omega) (by rw[hz2];omega) (by omega);rw[hz1]at this;simpa [Value.cells]using this
structure SpSt(w wb:World)(D:Dev)(m g N0 k n':Nat)(wr:World):Prop where
 row:∃ f:Nat→Nat,Row wr g m 3 (fun i => .int .i64 (f i))∧∀ (i b:Nat),k≤i→(basesL D)[i]? = some b→f i<b∧f i=digN (basesL D) N0 i
 n:n'<prodN ((basesL D).take k)
 dig:n'=N0/prodN ((basesL D).drop k)
 bel:Below w.heap.size w wr
 up:Upd (· = g) wb wr
theorem SpSt.step{m g N0 i n' q:Nat}{wb wr:World}(h:SpSt w wb D m g N0 (i+1) n' wr)(hg:w.heap.size≤g)(hb:(basesL D).take (i+1)=(basesL D).take i ++ [q+1])(hq:(basesL D)[i]? = some (q+1)):SpSt w wb D m g N0 i (n'/(q+1)) (wr.setCell ⟨g,i,none⟩ (.int .i64 ((n'%(q+1):Nat):Int))):=by
 obtain⟨f,h1,h2⟩:=h.row;have hn:=h.n;have hd:=h.dig;rw[hb,prodN_snoc]at hn;refine⟨⟨fun j=>if j=i then n'%(q+1)else f j,(h1.set i (.int .i64 ((n'%(q+1):Nat):Int))).congr (fun j _ => ?_),fun j b hj hjb => ?_⟩,Nat.div_lt_of_lt_mul (by rw[Nat.mul_comm];exact hn),?_,h.bel.setCell hg _,h.up.setCell (fun _=>rfl) _⟩
 ·by_cases e:j=i
  ·simp only[if_pos e]
  ·simp only[if_neg e]
 ·by_cases e:j=i
  ·simp only[if_pos e]
   subst e;rw[hq]at hjb
   cases hjb
   refine⟨Nat.mod_lt _ (by omega),?_⟩
   unfold digN;rw[hd,List.getD_eq_getElem?_getD,hq]
   rfl
  ·simp only[if_neg e]
   exact h2 j b (by omega) hjb
 ·rw[prodN_drop hq,hd,Nat.div_div_eq_div_mul]
theorem splitN_any(h:ExAt D pg lv hv hs w)(n:Nat)(hn:n<prodN (basesL D))(hp:prodN (basesL D)<18446744073709551616)(hm:D.dirtyL.length≤1000000)(hq:∀ l∈D.dirtyL,(D.hist l).length≤1000000000) :
  Calls Tryz.prog 42 #[.agg #[.slice (some ⟨pg,0,none⟩) N N,lv,hv],.int .u64 n] w fun r w'=>∃ (g:Nat) (f:Nat→Nat),r = .returned (.tuple #[.slice (some ⟨g,0,none⟩) D.dirtyL.length D.dirtyL.length,.bool true])∧Row w' g D.dirtyL.length 3 (fun i => .int .i64 (f i))∧(∀ (i b:Nat),(basesL D)[i]? = some b→f i<b∧f i=digN (basesL D) n i)∧w.heap.size≤g∧Below w.heap.size w w':=by
 have K0:=Lib.hid (Blk.new w #[.slice (some ⟨pg,0,none⟩) N N,lv,hv] 95);have B0:=Lib.hid (below_alloc w (.cells #[.slice (some ⟨pg,0,none⟩) N N,lv,hv] 95));have H:=Lib.hid h;have HQ:=Lib.hid hq;have HP:=Lib.hid hp;have HLE:=Lib.hid (fun k=>prodN_le (basesL D) (basesL_pos D) k);have HBA:=Lib.hid (bases_at D);have HALL:Hid ((basesL D).take D.dirtyL.length=basesL D):=List.take_of_length_le (by rw[basesL_len];exact Nat.le_refl _);have HBL:=Lib.hid (basesL_len D);obtain⟨m,hmm⟩:∃ m,D.dirtyL.length=m:=⟨_,rfl⟩;have HM:=Lib.hid hmm;have hh:=h.hist;have hl:=h.lines;rw[hmm]at hm HALL hh hl HBL ⊢;obtain⟨_,ha,hc,rfl,hmc,_⟩:=hh;obtain⟨_,la,lc,rfl,_,_⟩:=hl;have K2:Hid (Blk ((w.alloc (.cells #[.slice (some ⟨pg,0,none⟩) N N,.slice la m lc,.slice ha m hc] 95)).alloc (.cells (madeCells #[.int .i64 0] m) 3)) w.heap.size #[.slice (some ⟨pg,0,none⟩) N N,.slice la m lc,.slice ha m hc] 95):=K0.out.alloc _;have S0:Hid (SpSt w ((w.alloc (.cells #[.slice (some ⟨pg,0,none⟩) N N,.slice la m lc,.slice ha m hc] 95)).alloc (.cells (madeCells #[.int .i64 0] m) 3)) D m (w.heap.size+1) n m n ((w.alloc (.cells #[.slice (some ⟨pg,0,none⟩) N N,.slice la m lc,.slice ha m hc] 95)).alloc (.cells (madeCells #[.int .i64 0] m) 3))):=by
  have hr:=row_made (w.alloc (.cells #[.slice (some ⟨pg,0,none⟩) N N,.slice la m lc,.slice ha m hc] 95)) 3 .i64 m;rw[World.size_alloc]at hr;exact⟨⟨fun _=>0,hr,fun i b hi hb=>by have:=(List.getElem?_eq_some_iff.1 hb).1;rw[HBL.out]at this;omega⟩,by rw[HALL.out];exact hn,by rw[List.drop_of_length_le (by rw[HBL.out];exact Nat.le_refl _)];exact(Nat.div_one n).symm,(below_twice w _ _),Upd.refl _ _⟩
 have hmk:=fun(wx:World)=>mkInts wx m hm
 have gm1:IntKind.i64.wrap ((m:Int)-1)=(m:Int)-1:=IntWalk.i64_in _ (by omega);obtain⟨wb,hwb⟩:∃ wb,((w.alloc (.cells #[.slice (some ⟨pg,0,none⟩) N N,.slice la m lc,.slice ha m hc] 95)).alloc (.cells (madeCells #[.int .i64 0] m) 3))=wb:=⟨_,rfl⟩;rw[hwb]at K2 S0;clear h hp hq hmm hn K0 B0
 go_enter Tryz.func42,Tryz.ntmps42
 go_wp2_with fail
 clear hwb
 go_loopw [1,7,8] (fun z y _ wr=>∃ k n':Nat,k≤m∧y = .int .i64 ((k:Int)-1)∧z = .int .u64 n'∧SpSt w wb D m (w.heap.size+1) n k n' wr) (fun _ y _ _=>(intOf y+1).toNat)
 case atStart=>exact⟨m,n,by omega,rfl,rfl,S0.out⟩
 case round=>
  clear S0;obtain⟨k,n',hk,rfl,rfl,hst⟩:=hrel;rename World=>wr
  have S:=Lib.hid hst;clear hst
  by_cases hk0:k=0
  ·subst hk0
   have hn0:n'=0:=by
    have:=S.out.n;rw[List.take_zero]at this;have e:prodN ([]:List Nat)=1:=rfl;omega
   subst hn0;obtain⟨f,f1,f2⟩:=S.out.row;have F:=Lib.hid (And.intro f1 f2);clear f1 f2;rw[show((0:Nat):Int)-1 = -1 from rfl,show((0:Nat):Int)=0 from rfl];go_wp2_with fail
   go_ret2
   exact⟨w.heap.size+1,f,rfl,F.out.1,fun i b hb=>F.out.2 i b (by omega) hb,by omega,S.out.bel⟩
  ·obtain⟨i,rfl⟩:∃ i,k=i+1:=⟨k-1,by omega⟩
   rw[show(((i+1:Nat):Int)-1)=(i:Int)by omega];have hi0:(0:Int)≤(i:Int):=by omega
   have him:(i:Int)<m:=by omega
   obtain⟨l,hl⟩:∃ l,D.dirtyL[i]? = some l:=⟨_,List.getElem?_eq_getElem (by rw[HM.out];omega)⟩;obtain⟨u,r1,r2⟩:=H.out.row i l hl;have hq1:=HQ.out l (List.mem_of_getElem? hl);obtain⟨hb1,hb2⟩:=HBA.out i l hl;have hhb:=H.out.hist.below S.out.bel;rw[HM.out]at hhb;obtain⟨_,_,_,e',_,hE⟩:=hhb
   cases e'
   obtain⟨hb,ho,rfl,hE2⟩:=rd_at hE r1;have c1:=hE2 i _ r1;obtain⟨_,ua,uc,rfl,_,_⟩:=r2;have KW:=Lib.hid (K2.out.upd S.out.up (fun e=>by have e':w.heap.size=w.heap.size+1:=e;omega));have k2:=KW.out.cell (i:=2) (v:=.slice (some ⟨hb,ho,none⟩) m hc) rfl;obtain⟨f,f1,f2⟩:=S.out.row;have d1:=f1.cell (i:=i) (by omega);have d2:=f1.frozen i;have hgl:=f1.lt;obtain⟨q,hqd⟩:∃ q,(D.hist l).length=q:=⟨_,rfl⟩;rw[hqd]at c1 hq1 hb1 hb2;have S2:=Lib.hid (S.out.step (by omega) hb1 hb2);have ga1:IntKind.u64.wrap (q:Int)=(q:Int):=IntWalk.u64_in _ (by omega);have ga2:IntKind.u64.wrap ((q:Int)+1)=(q:Int)+1:=IntWalk.u64_in _ (by omega);obtain⟨z,hz⟩:∃ z,n'%(q+1)=z:=⟨_,rfl⟩;obtain⟨z2,hz2⟩:∃ z,n'/(q+1)=z:=⟨_,rfl⟩;have hzq:z<q+1:=by rw[← hz];exact Nat.mod_lt _ (by omega)
   have ge1:(n':Int)%((q:Int)+1)=(z:Int):=by rw[← hz];simp
   have ge2:(n':Int)/((q:Int)+1)=(z2:Int):=by rw[← hz2];simp
   have ge3:(n':Int).tmod ((q:Int)+1)=(z:Int):=by rw[Int.tmod_eq_emod_of_nonneg (by omega)];exact ge1
   have ge4:(n':Int).tdiv ((q:Int)+1)=(z2:Int):=by rw[Int.tdiv_eq_ediv_of_nonneg (by omega)];exact ge2
   have ge5:¬ (q:Int)+1=0:=by omega
   have ga3:IntKind.i64.wrap (z:Int)=(z:Int):=IntWalk.i64_in _ (by omega);have ga4:IntKind.i64.wrap ((i:Int)-1)=(i:Int)-1:=IntWalk.i64_in _ (by omega);rw[hz,hz2]at S2;have hz2b:z2<18446744073709551616:=Nat.lt_trans S2.out.n (Nat.lt_of_le_of_lt (HLE.out i) HP.out);have ga5:IntKind.u64.wrap (z2:Int)=(z2:Int):=IntWalk.u64_in _ (by omega);clear hE hE2 r1 hl hqd hb1 hb2 f1 f2 hz hz2;go_wp2_with fail
   go_roundw
   case rel=>
    refine⟨i,z2,by omega,?_,?_,S2.out⟩
    ·rfl
    ·rfl
   case measure=>simp[intOf]
end
end

section
open Go.RowKit
attribute [local go_sem ↓] Go.wp_at_zero Go.wp_at_succ
section
variable{w:World}{D:Dev}{rb lb:Nat}{hv:Nat→Value}{nv:Value}{ns:List (Nat×Nat)}
end
end

section
open Go.RowKit
attribute [local go_sem ↓] Go.wp_at_zero Go.wp_at_succ
section
variable{w:World}{D:Dev}{rb lb:Nat}{hv:Nat→Value}{nv:Value}{ns:List (Nat×Nat)}
end
end

section
open Go.RowKit
attribute [local go_sem ↓] Go.wp_at_zero Go.wp_at_succ
theorem bytesL_get(F:Nat→Int){N i:Nat}(hi:i<N):(bytesL F N)[i]? = some (.int .u8 (byteAt F i)):=by
 unfold bytesL;rw[List.getElem?_map,List.getElem?_range hi]
 rfl
theorem top_step(x:Int)(k:Nat):x/256 ^ (k+1)*256+x/256 ^ k%256=x/256 ^ k:=by
 rw[Int.pow_succ,← Int.ediv_ediv_of_nonneg (Int.pow_nonneg (by omega))];omega
section
variable{w:World}
theorem r54word_any(pv:Value)(N:Nat)(F:Nat→Int)(h:RdSl w 1 pv N (bytesL F N))(d:Nat)(hd:8*d+8≤N)(hN:N≤1000000)(hF:0≤F d∧F d<18446744073709551616) :
  Calls Tryz.prog 296 #[pv,.int .i64 (8*d:Nat)] w fun r w'=>r = .returned (.int .u64 (F d))∧w=w':=by
 have H:=Lib.hid h;obtain⟨_,a,c,rfl,hc,_⟩:=h;obtain⟨x,hx⟩:∃ x,F d=x:=⟨_,rfl⟩;have HX:=Lib.hid hx;rw[hx]at hF ⊢;have h8:x/256 ^ 8=0:=Int.ediv_eq_zero_of_lt hF.1 (by have:=hF.2;omega);obtain⟨o,ho⟩:∃ o,8*d=o:=⟨_,rfl⟩;have HO:=Lib.hid ho;rw[ho]at hd ⊢;clear hx ho
 go_enter Tryz.func296,Tryz.ntmps296
 go_wp2_with fail
 go_loop [5,6] (fun z y=>∃ k:Nat,k≤8∧y = .int .i64 ((k:Int)-1)∧z = .int .u64 (x/256 ^ k)) (fun _ y=>(intOf y+1).toNat)
 case atStart=>exact⟨8,by omega,rfl,by rw[h8]⟩
 case round=>
  obtain⟨k,hk,rfl,rfl⟩:=hrel
  by_cases hk0:k=0
  ·subst hk0
   rw[show((0:Nat):Int)-1 = -1 from rfl,Int.pow_zero,Int.ediv_one];go_wp2_with fail
   go_ret
   exact⟨rfl,rfl⟩
  ·obtain⟨i,rfl⟩:∃ i,k=i+1:=⟨k-1,by omega⟩
   rw[show(((i+1:Nat):Int)-1)=(i:Int)by omega];have hi0:(0:Int)≤(i:Int):=by omega
   have hi8:i<8:=by omega
   have hby:byteAt F (o+i)=x/256 ^ i%256:=by
    unfold byteAt;rw[← HO.out,show(8*d+i)/8=d by omega,show(8*d+i)%8=i by omega,HX.out,Nat.mul_comm i 8,Int.pow_mul]
    rfl
   have hst:=top_step x i;have hxl:=bytesL_get F (N:=N) (i:=o+i) (by omega);obtain⟨_,a',c',e',_,hE⟩:=H.out
   cases e'
   obtain⟨fb,fo,rfl,hE2⟩:=rd_at hE hxl;have q1:=hE2 _ _ hxl;rw[hby]at q1;have hy0:0≤x/256 ^ i:=Int.ediv_nonneg hF.1 (Int.pow_nonneg (by omega));have hy1:x/256 ^ i≤x:=Int.ediv_le_self _ hF.1;have hv0:0≤x/256 ^ (i+1):=Int.ediv_nonneg hF.1 (Int.pow_nonneg (by omega));have hxb:=hF.2;obtain⟨y,hy⟩:∃ y,x/256 ^ i=y:=⟨_,rfl⟩;obtain⟨v,hv⟩:∃ v,x/256 ^ (i+1)=v:=⟨_,rfl⟩;have HY:=Lib.hid hy;rw[hy]at hst hy0 hy1 q1;rw[hv]at hst hv0 ⊢;obtain⟨b,hb⟩:∃ b,y%256=b:=⟨_,rfl⟩;rw[hb]at hst q1;have hb0:0≤b∧b<256:=by omega
   have ga1:IntKind.u64.wrap (v*256)=v*256:=IntWalk.u64_in _ (by omega);have ga2:IntKind.u64.wrap b=b:=IntWalk.u64_in _ (by omega);have ga3:IntKind.u64.wrap y=y:=IntWalk.u64_in _ (by omega);have ga4:IntKind.i64.wrap ((i:Int)-1)=(i:Int)-1:=IntWalk.i64_in _ (by omega);have ga6:IntKind.i64.wrap ((o:Int)+(i:Int))=(o:Int)+(i:Int):=IntWalk.i64_in _ (by omega);have hoi:(o:Int)+(i:Int)<(N:Int):=by omega
   have ho0:0≤(o:Int)+(i:Int):=by omega
   have HB0:=Lib.hid hb0;clear hby hxl hE hE2 hy hv hb hxb hy1;go_wp2_with fail
   exact⟨⟨i,by omega,rfl,by rw[HY.out]⟩,by simp[intOf]⟩
theorem r54Good_any(pv:Value)(N:Nat)(F:Nat→Int)(h:RdSl w 1 pv N (bytesL F N))(hd:136≤N)(hN:N≤1000000)(hF:∀ d,0≤F d∧F d<18446744073709551616)(e:Bool) :
  Calls Tryz.prog 295 #[pv,.bool e] w fun r w'=>r = .returned (.bool (goodF F e))∧w=w':=by
 have h8:=Lib.hid (r54word_any pv N F h 8 (by omega) hN (hF 8));have h0:=Lib.hid (r54word_any pv N F h 0 (by omega) hN (hF 0));have h16:=Lib.hid (r54word_any pv N F h 16 (by omega) hN (hF 16));rw[show((8*8:Nat):Int)=64 from rfl]at h8;rw[show((8*0:Nat):Int)=0 from rfl]at h0;rw[show((8*16:Nat):Int)=128 from rfl]at h16;have HG:Hid (goodF F e=if F 8=0 then !e else decide (F 0=7)&&decide (F 16=7)):=rfl;obtain⟨_,a,c,rfl,_,_⟩:=h;obtain⟨x8,hx8⟩:∃ x,F 8=x:=⟨_,rfl⟩;obtain⟨x0,hx0⟩:∃ x,F 0=x:=⟨_,rfl⟩;obtain⟨x16,hx16⟩:∃ x,F 16=x:=⟨_,rfl⟩;rw[hx8]at h8;rw[hx0]at h0;rw[hx16]at h16
 rw[hx8,hx0,hx16]at HG;rw[HG.out];clear hF hx8 hx0 hx16 HG
 by_cases e8:x8=0
 ·rw[if_pos e8]
  subst e8
  go_enter Tryz.func295,Tryz.ntmps295
  go_wp2_with fail
  (with_reducible refine h8.out.mono ?_)
  rintro r w1 ⟨rfl,rfl⟩;go_wp2_with fail
  go_ret
  exact⟨rfl,rfl⟩
 ·rw[if_neg e8]
  have b8:(x8==0)=false:=by simpa using e8
  by_cases e0:x0=7
  ·subst e0
   go_enter Tryz.func295,Tryz.ntmps295
   go_wp2_with fail
   (with_reducible refine h8.out.mono ?_)
   rintro r w1 ⟨rfl,rfl⟩;go_wp2_with fail
   (with_reducible refine h0.out.mono ?_)
   rintro r w1 ⟨rfl,rfl⟩;go_wp2_with fail
   (with_reducible refine h16.out.mono ?_)
   rintro r w1 ⟨rfl,rfl⟩;go_wp2_with fail
   go_ret
   refine⟨ret_bool ?_,rfl⟩
   by_cases e16:x16=7 <;> simp[e16]
  ·have b0:(x0==7)=false:=by simpa using e0
   go_enter Tryz.func295,Tryz.ntmps295
   go_wp2_with fail
   (with_reducible refine h8.out.mono ?_)
   rintro r w1 ⟨rfl,rfl⟩;go_wp2_with fail
   (with_reducible refine h0.out.mono ?_)
   rintro r w1 ⟨rfl,rfl⟩;go_wp2_with fail
   go_ret
   refine⟨ret_bool ?_,rfl⟩
   simp[e0]
end
def refP(q:List (Nat×Nat×Int)):List Value:=q.flatMap fun e => [.int .i64 ((e.1:Int)-1),.int .u64 e.2.1,.int .u64 e.2.2]
theorem refP_get(l:List (Nat×Nat×Int)):∀ (k:Nat) (e:Nat×Nat×Int),l[k]? = some e→(refP l)[k*3]? = some (.int .i64 ((e.1:Int)-1))∧(refP l)[k*3+1]? = some (.int .u64 e.2.1)∧(refP l)[k*3+2]? = some (.int .u64 e.2.2):=by
 induction l with
 | nil=>intro k e h;simp at h
 | cons x l ih=>
  intro k e he;have hf:refP (x::l) = .int .i64 ((x.1:Int)-1) :: .int .u64 x.2.1 :: .int .u64 x.2.2::refP l:=rfl
  cases k with
  | zero=>simp at he;subst he;simp[hf]
  | succ k=>
   have:=ih k e (by simpa using he);rw[hf,show(k+1)*3=k*3+1+1+1 from by omega];simpa using this
structure OkQ(n:Nat)(e:Nat×Nat×Int):Prop where
 lo:1≤e.1
 hi:e.1≤3
 al:e.2.1%8=0
 lt:e.2.1<64*n
 v0:0≤e.2.2
 v1:e.2.2<18446744073709551616
theorem run_nN(D:Dev)(q:List (Nat×Nat×Int)):(D.run 0 q).n=D.n:=by
 induction q generalizing D with
 | nil=>rfl
 | cons e q ih=>
  show((D.step 0 e).run 0 q).n=D.n
  rw[ih];unfold Dev.step Dev.store Dev.flush Dev.fence Dev.countedD Dev.onD Dev.fail
  repeat' split
  all_goals rfl
section
variable{w:World}
end
end

section
open Go.RowKit
def sumH(f:Nat→Nat):Nat→Nat
 | 0=>0
 | n+1=>sumH f n+f n
theorem sumH_le{f g:Nat→Nat}{a:Nat}(h:∀ l,f l≤g l+(if l=a then 1 else 0)):∀ n,sumH f n≤sumH g n+(if a<n then 1 else 0):=by
 intro n
 induction n with
 | zero=>simp[sumH]
 | succ n ih=>
  have h1:=h n;simp only[sumH]
  by_cases e:n=a
  ·subst e
   rw[if_pos rfl]at h1;rw[if_neg (Nat.lt_irrefl n)]at ih;rw[if_pos (by omega)];omega
  ·rw[if_neg e]at h1
   by_cases e2:a<n
   ·rw[if_pos e2]at ih;rw[if_pos (by omega)];omega
   ·rw[if_neg e2]at ih;rw[if_neg (by omega)];omega
def totH(D:Dev):Nat:=sumH (fun l=>(D.hist l).length) D.n
theorem step_hist(D:Dev)(e:Nat×Nat×Int)(l:Nat):((D.step 0 e).hist l).length≤(D.hist l).length+(if l=e.2.1/64 then 1 else 0):=by
 have hs:=fun b=>(Dev.countedD_same D 0 b).2
 unfold Dev.step
 split
 ·unfold Dev.store
  split
  ·simp only[Dev.put,hs]
   split
   ·rw[List.length_append,List.length_singleton];omega
   ·omega
  ·rw[hs];omega
 ·split
  ·unfold Dev.flush
   split
   ·simp only[Dev.jot,hs];omega
   ·rw[hs];omega
  ·unfold Dev.fence
   split
   ·simp only[Dev.sync,hs,List.length_drop];omega
   ·rw[hs];omega
theorem step_nN(D:Dev)(e:Nat×Nat×Int):(D.step 0 e).n=D.n:=run_nN D [e]
theorem tot_run(q:List (Nat×Nat×Int)):∀ D:Dev,totH (D.run 0 q)≤totH D+q.length:=by
 induction q with
 | nil=>intro D;simp[Dev.run]
 | cons e q ih=>
  intro D;have h1:=ih (D.step 0 e);have h2:=sumH_le (step_hist D e) D.n;have h3:totH (D.step 0 e)≤totH D+1:=by
   unfold totH;rw[step_nN]
   split at h2 <;> omega
  show totH ((D.step 0 e).run 0 q)≤totH D+(q.length+1)
  omega
theorem succ_two(k:Nat):k+1≤2 ^ k:=by
 induction k with
 | zero=>simp
 | succ k ih=>rw[Nat.pow_succ];omega
theorem prod_tot(D:Dev):∀ n,prodN (((List.range n).filter fun l=>decide (0<(D.hist l).length)).map fun l=>(D.hist l).length+1)≤2 ^ sumH (fun l=>(D.hist l).length) n:=by
 intro n
 induction n with
 | zero=>simp[sumH,prodN]
 | succ n ih=>
  rw[List.range_succ,List.filter_append,List.map_append];simp only[sumH]
  by_cases h:0<(D.hist n).length
  ·rw[List.filter_cons_of_pos (by simpa using h),List.filter_nil,List.map_cons,List.map_nil,prodN_snoc,Nat.pow_add]
   exact Nat.mul_le_mul ih (succ_two _)
  ·rw[List.filter_cons_of_neg (by simpa using h),List.filter_nil,List.map_nil,List.append_nil,show(D.hist n).length=0 by omega,Nat.add_zero]
   exact ih
theorem bases_tot(D:Dev):prodN (basesL D)≤2 ^ totH D:=prod_tot D D.n
theorem tot_fresh(n:Nat)(f:Nat→Int):totH (Dev.fresh n f)=0:=by
 unfold totH;have:∀ m,sumH (fun l=>((Dev.fresh n f).hist l).length) m=0:=by
  intro m
  induction m with
  | zero=>rfl
  | succ m ih=>simp only[sumH,ih];rfl
 exact this _
theorem fresh_prod(n:Nat)(q:List (Nat×Nat×Int))(h:q.length≤60):prodN (basesL ((Dev.fresh n (fun _=>0)).run 0 q))≤1152921504606846976:=by
 have h1:=bases_tot ((Dev.fresh n (fun _=>0)).run 0 q);have h2:=tot_run q (Dev.fresh n (fun _=>0));rw[tot_fresh]at h2;exact Nat.le_trans h1 (Nat.pow_le_pow_right (by omega) (by omega):2 ^ _≤2 ^ 60)
def woI(f:Int):List (Nat×Nat×Int)→Nat→List (Nat×Nat×Int)
 | [],_ => []
 | e::l,n=>if e.1=3 then(if(n:Int)=f then woI f l (n+1)else e::woI f l (n+1))else e::woI f l n
theorem woI_snoc(f:Int)(l:List (Nat×Nat×Int))(e:Nat×Nat×Int):∀ n,woI f (l ++ [e]) n=woI f l n++(if e.1=3∧((n+fenN l:Nat):Int)=f then []else [e]):=by
 induction l with
 | nil=>
  intro n;simp only[List.nil_append,woI,fenN,List.filter_nil,List.length_nil,Nat.add_zero]
  by_cases h:e.1=3 <;> by_cases h2:(n:Int)=f <;> simp[h,h2]
 | cons x l ih=>
  intro n;have hf:fenN (x::l)=fenN l+(if x.1=3 then 1 else 0):=by
   unfold fenN
   by_cases h:x.1=3 <;> simp[h]
  simp only[List.cons_append,woI]
  by_cases h:x.1=3
  ·rw[if_pos h,if_pos h,hf,if_pos h,ih,show n+1+fenN l=n+(fenN l+1)by omega]
   split <;> rfl
  ·rw[if_neg h,if_neg h,hf,if_neg h,ih,Nat.add_zero]
   rfl
theorem woI_mem(f:Int)(l:List (Nat×Nat×Int)):∀ n,∀ e∈woI f l n,e∈l:=by
 induction l with
 | nil=>intro n e he;simp[woI]at he
 | cons x l ih=>
  intro n e he;simp only[woI]at he
  split at he
  ·split at he
   ·exact List.mem_cons_of_mem _ (ih _ e he)
   ·rcases List.mem_cons.1 he with rfl | h
    ·exact List.mem_cons_self
    ·exact List.mem_cons_of_mem _ (ih _ e h)
  ·rcases List.mem_cons.1 he with rfl | h
   ·exact List.mem_cons_self
   ·exact List.mem_cons_of_mem _ (ih _ e h)
theorem woI_len(f:Int)(l:List (Nat×Nat×Int)):∀ n,(woI f l n).length≤l.length:=by
 induction l with
 | nil=>intro n;simp[woI]
 | cons x l ih=>
  intro n;have h1:=ih n;have h2:=ih (n+1)
  simp only[woI]
  split
  ·split <;> simp only[List.length_cons] <;> omega
  ·simp only[List.length_cons];omega
theorem fenN_le(l:List (Nat×Nat×Int)):fenN l≤l.length:=List.length_filter_le _ _
def qOf(f:Int)(q:List (Nat×Nat×Int)):List (Nat×Nat×Int):=if f = -1 then q else woI f q 0
def isOf(f:Int)(q:List (Nat×Nat×Int)):Bool:=decide (f = -1) || decide (0≤f∧f<fenN q)
theorem qOf_mem{f:Int}{q:List (Nat×Nat×Int)}:∀ e∈qOf f q,e∈q:=by
 unfold qOf
 split
 ·exact fun e h=>h
 ·exact woI_mem f q 0
theorem qOf_len(f:Int)(q:List (Nat×Nat×Int)):(qOf f q).length≤q.length:=by
 unfold qOf
 split
 ·exact Nat.le_refl _
 ·exact woI_len f q 0
end
end Go.Proofs.YtlhchkajjpefmaaGreatDoor
