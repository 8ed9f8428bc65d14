/- Lemmas and walks, part 7: each theorem says what it proves; no condition beside its own. -/
import Derived.Test.YtlhchkajjpefmaaGreatDoorK6
import Derived.Laws.CopyOwn
set_option maxHeartbeats 16000000
set_option maxRecDepth 100000
namespace Go.Proofs.YtlhchkajjpefmaaGreatDoor
open Lib(hid)
open Go.RowKit Go.Proofs.Tryz
section
attribute [local go_sem ↓] Go.wp_at_zero Go.wp_at_succ
def Qq1(F:Nat->Int)(off:Nat)(x:Int)(k i:Nat):Int:=if off<=i/\i<off+k then x/2 ^ ((i-off)*8)%256 else Qq F i
theorem Qoa(F:Nat->Int)(off:Nat)(x:Int)(i:Nat):Qq1 F off x 0 i=Qq F i:=by
 unfold Qq1;rw[if_neg (by omega)]
theorem Qn9(F:Nat->Int)(off:Nat)(x:Int)(k i:Nat):(if i=off+k then x/2 ^ (k*8)%256 else Qq1 F off x k i)=Qq1 F off x (k+1) i:=by
 unfold Qq1
 by_cases e:i=off+k
 ·rw[if_pos e,if_pos (by omega),e,Nat.add_sub_cancel_left]
 ·rw[if_neg e]
  by_cases h:off<=i/\i<off+k
  ·rw[if_pos h,if_pos (by omega)]
  ·rw[if_neg h,if_neg (by omega)]
theorem Qn8(l:List (Nat×Int))(e:Nat×Int)(F:Nat->Int)(h:e.1%8=0)(i:Nat):Qq1 (Yh l F) e.1 e.2 8 i=Qq (Yh (l ++ [e]) F) i:=by
 unfold Qq1 Qq Yh;rw[Xt]
 by_cases h1:e.1<=i/\i<e.1+8
 ·rw[if_pos h1,if_pos (by omega),show i%8=i-e.1 by omega]
 ·rw[if_neg h1,if_neg (by omega)]
theorem Qys:(Tryz.prog.info? 5).map (·.size)=some 1:=by kernel_rfl
theorem Qma{wx:World}{g pg N:Nat}{cur:Array Value}{B:Nat->Int}(hg:Blk wx g cur 5)(hz:cur.size=N)(hr:Row wx pg N 5 (fun i => .int .u8 (B i))) :
  ∃ wy,(∀ ty,(Builtin.copy_ #[62,62] ty #[.slice (some ⟨g,0,none⟩) N N,.slice (some ⟨pg,0,none⟩) N N]).run prog wx = .ok (goInt (N:Nat)) wy) /\
   Row wy g N 5 (fun i => .int .u8 (B i))/\Upd (· = g) wx wy:=by
 have hl:((List.range N).map fun i=>Value.int .u8 (B i)).length=N:=by simp
 have hr2:=fun ty=>run_copy_row (P:=prog) wx 62 62 ty 5 g 0 N N ⟨pg,0,none⟩ N N cur 5 ((List.range N).map fun i=>Value.int .u8 (B i)) underlying62 Qys hg (by rw[hl];exact(Nat.min_self N).symm)
  (fun j u hj=>by
   have hj2:j<N:=by rw[<- hl];exact(List.getElem?_eq_some_iff.1 hj).1
   rw[List.getElem?_map,List.getElem?_range hj2]at hj
   cases hj
   rw[Addr.add_lit,Nat.zero_add];exact hr.cell hj2) (by rw[hl];omega) (fun u hu=>by
   obtain⟨j,_,rfl⟩:=List.mem_map.1 hu
   rfl)
 refine⟨_,fun ty=>by rw[hr2 ty,hl],⟨_,setRow_heap wx g cur _ 5 (0,0) hg,fun i hi => ?_⟩,⟨rfl,rfl,rfl,by simp[World.setRow],fun k _ hk=>setRow_other _ _ _ _ hk⟩⟩
 rw[List.take_zero,List.nil_append,List.getElem?_toArray,List.getElem?_append_left (by rw[hl];exact hi),List.getElem?_map,List.getElem?_range hi]
 rfl
section
variable{w:World}{v:DV}{own:Nat->Option Qp}{D:Dev}{pg:Nat}{lv hv:Value}{hs:List Value}
theorem Qe4(h:Qk8 D pg lv hv hs w)(hw:D.WF)(hvb:D.VB)(hq:∀ l∈D.dirtyL,(D.hist l).length<=1000000000)(kb:Nat)(f:Nat->Nat)(hf:Row w kb D.dirtyL.length 3 (fun i => .int .i64 (f i)))(hfb:∀ (i b:Nat),(Qf D)[i]? = some b->f i<b) :
  Calls prog 43 #[.agg #[.slice (some ⟨pg,0,none⟩) (64*D.n) (64*D.n),lv,hv],.slice (some ⟨kb,0,none⟩) D.dirtyL.length D.dirtyL.length] w fun r w'=>∃ (ks:Nat->Nat) (s:ByteArray),((∀ l,ks l<=(D.hist l).length)/\∀ (i l:Nat),D.dirtyL[i]? = some l->ks l=f i)/\r = .returned (.agg #[.string s])/\Qle s D.n (D.img ks)/\Below w.heap.size w w':=by
 have hn:=hw.le;have hn0:=hw.pos
 have HW:=hid hw;have HVB:=hid hvb;have HQ:=hid hq;have HFB:=hid hfb
 have HND:Hid (D.dirtyL.Nodup/\∀ l∈D.dirtyL,l<D.n):=hid ⟨List.Nodup.sublist List.filter_sublist List.nodup_range,fun l hl=>by
  have:=(List.mem_filter.1 hl).1;simpa using this⟩
 have HBA:=hid (Fq D);have hdl:D.dirtyL.length<=D.n:=by unfold Dev.dirtyL;exact Ka D D.n
 have H:=hid h;have HF:=hid hf
 have hh:=h.hist;have hl:=h.lines;obtain⟨m,hmm⟩:∃ m,D.dirtyL.length=m:=⟨_,rfl⟩;have HM:=hid hmm;rw[hmm]at hdl hh hl HF ⊢;obtain⟨_,ha,hc,rfl,hmc,_⟩:=hh;obtain⟨_,la,lc,rfl,_,_⟩:=hl;obtain⟨N,hN⟩:∃ N,64*D.n=N:=⟨_,rfl⟩;have HN:=hid hN;rw[hN];have hNb:N<=262144:=by omega
 have hmk:=fun(wx:World)=>Qan wx N (by omega)
 have HNEW:=hid (fun(wx:World) (g:Nat) (F:Nat->Int) (hr:Row wx g (64*D.n) 5 (fun i => .int .u8 (Qq F i)))=>Qnh (w:=wx) hr hn);rw[hN]at HNEW;have K2:Hid (Blk (((w.alloc (.cells #[.slice (some ⟨pg,0,none⟩) N N,.slice la m lc,.slice ha m hc] 95)).alloc (.cells #[.string ⟨#[]⟩] 46)).alloc (.cells (madeCells #[.int .u8 0] N) 5)) w.heap.size #[.slice (some ⟨pg,0,none⟩) N N,.slice la m lc,.slice ha m hc] 95):=((Blk.new w _ _).alloc _).alloc _;have K4:Hid (Blk (((w.alloc (.cells #[.slice (some ⟨pg,0,none⟩) N N,.slice la m lc,.slice ha m hc] 95)).alloc (.cells #[.string ⟨#[]⟩] 46)).alloc (.cells (madeCells #[.int .u8 0] N) 5)) (w.heap.size+1) #[.string ⟨#[]⟩] 46):=by
  have:=(Blk.new (w.alloc (.cells #[.slice (some ⟨pg,0,none⟩) N N,.slice la m lc,.slice ha m hc] 95)) #[.string ⟨#[]⟩] 46).alloc (.cells (madeCells #[.int .u8 0] N) 5);rw[World.size_alloc]at this;exact this
 have B3:Hid (Below w.heap.size w (((w.alloc (.cells #[.slice (some ⟨pg,0,none⟩) N N,.slice la m lc,.slice ha m hc] 95)).alloc (.cells #[.string ⟨#[]⟩] 46)).alloc (.cells (madeCells #[.int .u8 0] N) 5))):=(Ze w _ _).trans ((Qa _ _).mono (by simp;omega));have hgz:Blk (((w.alloc (.cells #[.slice (some ⟨pg,0,none⟩) N N,.slice la m lc,.slice ha m hc] 95)).alloc (.cells #[.string ⟨#[]⟩] 46)).alloc (.cells (madeCells #[.int .u8 0] N) 5)) (w.heap.size+1+1) (madeCells #[.int .u8 0] N) 5:=by
  have:=Blk.new ((w.alloc (.cells #[.slice (some ⟨pg,0,none⟩) N N,.slice la m lc,.slice ha m hc] 95)).alloc (.cells #[.string ⟨#[]⟩] 46)) (madeCells #[.int .u8 0] N) 5;simp only[World.size_alloc]at this;exact this
 have hpr:Row (((w.alloc (.cells #[.slice (some ⟨pg,0,none⟩) N N,.slice la m lc,.slice ha m hc] 95)).alloc (.cells #[.string ⟨#[]⟩] 46)).alloc (.cells (madeCells #[.int .u8 0] N) 5)) pg N 5 (fun i => .int .u8 (Qq D.pers i)):=by
  have:=h.pers.below B3.out
  rwa [hN]at this
 obtain⟨wb,hcp,hrow,hup⟩:=Qma hgz (by simp[madeCells]) hpr;have KB:=hid (K2.out.upd hup (fun e=>by have e':w.heap.size=w.heap.size+1+1:=e;omega));have KI:=hid (K4.out.upd hup (fun e=>by have e':w.heap.size+1=w.heap.size+1+1:=e;omega));have BW:Hid (Below w.heap.size w wb):=B3.out.trans ⟨hup.os,hup.tape,hup.output,hup.size,fun k hk=>hup.block k (by have:=B3.out.size;omega) (fun e=>by have e':k=w.heap.size+1+1:=e;omega)⟩;have RW:=hid hrow;have cb2:=KB.out.cell (i:=2) (v:=.slice ha m hc) rfl;have hglt:w.heap.size+1+1<wb.heap.size:=hrow.lt;clear h hw hvb hq hfb hf hmm hN hgz hpr hrow hup K2 K4
 go_enter func43,ntmps43
 go_wp2_with fail
 clear hcp;obtain⟨g,hg⟩:∃ g,w.heap.size+1+1=g:=⟨_,rfl⟩;rw[hg]at RW hglt ⊢;have S0:Hid (∃ ks:Nat->Nat,(∀ l,ks l<=(D.hist l).length)/\(∀ l,l∉D.dirtyL.take 0->ks l=0)/\(∀ (i l:Nat),i<0->D.dirtyL[i]? = some l->ks l=f i)/\Row wb g N 5 (fun i => .int .u8 (Qq (D.img ks) i))/\Upd (· = g) wb wb):=⟨fun _=>0,fun _=>Nat.zero_le _,fun _ _=>rfl,fun i l hi=>absurd hi (Nat.not_lt_zero i),RW.out.congr (fun i _=>by
  have e:D.img (fun _=>0)=D.pers:=by funext i;simp[Dev.img,Qu]
  rw[e]),Upd.refl _ _⟩
 clear hmk RW
 go_loopw [6,7,9,10,24] (fun _ _ _ _ y wr=>∃ k:Nat,k<=m/\y = .int .i64 k/\∃ ks:Nat->Nat,(∀ l,ks l<=(D.hist l).length)/\(∀ l,l∉D.dirtyL.take k->ks l=0)/\(∀ (i l:Nat),i<k->D.dirtyL[i]? = some l->ks l=f i)/\Row wr g N 5 (fun i => .int .u8 (Qq (D.img ks) i))/\Upd (· = g) wb wr) (fun _ _ _ _ y _=>m-(intOf y).toNat)
 case atStart=>exact⟨0,by omega,rfl,S0.out⟩
 case round=>
  clear S0;obtain⟨k,hk,rfl,ks,k1,k2,k5,k3,k4⟩:=hrel;rename World=>wr
  have KS:=hid (And.intro k1 (And.intro k2 k5));have R:=hid k3;have U:=hid k4
  clear k1 k2 k3 k4 k5;have BR:Hid (Below w.heap.size w wr):=BW.out.trans ⟨U.out.os,U.out.tape,U.out.output,U.out.size,fun j hj=>U.out.block j (by have:=BW.out.size;omega) (fun e=>by have e':j=g:=e;omega)⟩
  by_cases hlt:k<m
  ·have hlt':(k:Int)<m:=by omega
   obtain⟨l,hl⟩:∃ l,D.dirtyL[k]? = some l:=⟨_,List.getElem?_eq_getElem (by rw[HM.out];exact hlt)⟩;have hln:=HND.out.2 l (List.mem_of_getElem? hl);have hq1:=HQ.out l (List.mem_of_getElem? hl);have hfk:=HFB.out k _ (HBA.out k l hl).2;obtain⟨u,r1,r2⟩:=H.out.row k l hl;have hhb:=H.out.hist.below BR.out;rw[HM.out]at hhb;obtain⟨_,_,_,e',_,hE⟩:=hhb
   cases e'
   obtain⟨hb,ho,rfl,hE2⟩:=Zr hE r1;have c1:=hE2 k _ r1;obtain⟨ua,uc,rfl⟩:∃ ua uc,u = .slice ua (D.hist l).length uc:=by obtain⟨_,a,c,e,_,_⟩:=r2;exact⟨a,c,e⟩
   have R2:=hid r2;have hrcap:(D.hist l).length<=uc:=by obtain⟨_,_,_,e,hc,_⟩:=r2;cases e;exact hc
   have c2:=(HF.out.below BR.out).cell (i:=k) hlt;obtain⟨q,hqq⟩:∃ q,f k=q:=⟨_,rfl⟩;have HQQ:=hid hqq;rw[hqq]at c2 hfk;obtain⟨hL,hhL⟩:∃ hL,(D.hist l).length=hL:=⟨_,rfl⟩;have HHL:=hid hhL;have HLN:=hid (And.intro hl hln);rw[hhL]at hq1 hfk c1 hrcap;have hqc:(q:Int)<=uc:=by omega
   have hqc0:(0:Int)<=q:=by omega
   clear hE hE2 r1 r2 hl hqq hhL;have M0:Hid (Row wr g N 5 (fun i => .int .u8 (Qq (Yh ((D.hist l).take 0) (D.img ks)) i))/\Upd (· = g) wb wr):=⟨R.out,U.out⟩;go_wp2_with fail
   go_loopw [9,10,36] (fun _ _ y wq=>∃ j:Nat,j<=q/\y = .int .i64 j/\Row wq g N 5 (fun i => .int .u8 (Qq (Yh ((D.hist l).take j) (D.img ks)) i))/\Upd (· = g) wb wq) (fun _ _ y _=>q-(intOf y).toNat)
   case atStart=>exact⟨0,by omega,rfl,M0.out⟩
   case round=>
    clear M0 R U BR c1 c2;obtain⟨j,hj,rfl,m1,m2⟩:=hrel;rename World=>wq
    have R:=hid m1;have U:=hid m2
    clear m1 m2;have BQ:Hid (Below w.heap.size w wq):=BW.out.trans ⟨U.out.os,U.out.tape,U.out.output,U.out.size,fun j hj=>U.out.block j (by have:=BW.out.size;omega) (fun e=>by have e':j=g:=e;omega)⟩
    by_cases hjq:j<q
    ·have hjq':(j:Int)<q:=by omega
     obtain⟨e,he⟩:∃ e,(D.hist l)[j]? = some e:=⟨_,List.getElem?_eq_getElem (by rw[HHL.out];omega)⟩;have hmem:=List.mem_of_getElem? he;obtain⟨el,ea⟩:=HW.out.line l HLN.out.2 e hmem;have ev:=HVB.out.hist l e hmem;have hfg:=Iv (D.hist l) j e he;have hrd:=R2.out.below BQ.out;obtain⟨_,_,_,e',_,hE⟩:=hrd
     cases e'
     obtain⟨sb,so,rfl,hE2⟩:=Zr hE hfg.1;have c1:=hE2 _ _ hfg.1;have c2:=hE2 _ _ hfg.2
     rw[<- Nat.add_assoc]at c2;rw[Nat.mul_comm 2 j]at c1 c2;have HT:Hid ((D.hist l).take (j+1)=(D.hist l).take j ++ [e]):=by show _=_;rw[List.take_add_one,he];rfl
     have hln:=HLN.out.2;have hNN:=HN.out;have hoff:e.1+8<=N:=by omega
     obtain⟨e1,e2⟩:=e;simp only at c1 c2 hoff ea ev;obtain⟨F,hF⟩:∃ F,Yh ((D.hist l).take j) (D.img ks)=F:=⟨_,rfl⟩;have HFm:Hid (∀ i,Qq1 F e1 e2 8 i=Qq (Yh ((D.hist l).take (j+1)) (D.img ks)) i):=fun i=>by
      rw[HT.out,<- hF];exact Qn8 _ (e1,e2) _ ea i
     rw[hF]at R;have hgq:g<wq.heap.size:=R.out.lt;have Z0:Hid (Row (wq.alloc (.cells #[.int .u64 e1,.int .u64 e2] 140)) g N 5 (fun i => .int .u8 (Qq1 F e1 e2 0 i))/\Upd (· = g) (wq.alloc (.cells #[.int .u64 e1,.int .u64 e2] 140)) (wq.alloc (.cells #[.int .u64 e1,.int .u64 e2] 140))):=
      ⟨(R.out.alloc _).congr (fun i _=>by rw[Qoa]),Upd.refl _ _⟩
     have XB:=hid (Blk.new wq #[.int .u64 e1,.int .u64 e2] 140);clear hE hE2 he hmem hfg hF HT R el ea hNN hln;go_wp2_with fail
     go_loopw [10,40] (fun _ y wz=>∃ b:Nat,b<=8/\y = .int .i64 b/\Row wz g N 5 (fun i => .int .u8 (Qq1 F e1 e2 b i))/\Upd (· = g) (wq.alloc (.cells #[.int .u64 e1,.int .u64 e2] 140)) wz) (fun _ y _=>8-(intOf y).toNat)
     case atStart=>exact⟨0,by omega,rfl,Z0.out⟩
     case round=>
      clear Z0 c1 c2;obtain⟨b,hb,rfl,m1,m2⟩:=hrel;rename World=>wz
      have R:=hid m1;have UZ:=hid m2
      clear m1 m2
      by_cases hb8:b<8
      ·have hb8':(b:Int)<8:=by omega
       have XZ:=hid (XB.out.upd UZ.out (fun e=>by have e':wq.heap.size=g:=e;omega));have d0:=XZ.out.cell (i:=0) (v:=.int .u64 e1) rfl;have d1:=XZ.out.cell (i:=1) (v:=.int .u64 e2) rfl;have d2:=R.out.cell (i:=e1+b) (by omega);have d3:=R.out.frozen (e1+b);have g1:IntKind.i64.wrap (e1:Int)=(e1:Int):=IntWalk.i64_in _ (by omega);have g2:IntKind.i64.wrap ((e1:Int)+(b:Int))=((e1+b:Nat):Int):=by rw[IntWalk.i64_in _ (by omega)];omega
       have g3:IntKind.i64.wrap (8*(b:Int))=((8*b:Nat):Int):=by rw[IntWalk.i64_in _ (by omega)];omega
       have g4:IntKind.u64.wrap ((8*b:Nat):Int)=((8*b:Nat):Int):=IntWalk.u64_in _ (by omega);have hgz:g<wz.heap.size:=R.out.lt;go_wp2_with fail
       refine⟨⟨b+1,by omega,by go_num,(R.out.set (e1+b) _).congr (fun i _ => ?_),UZ.out.setCell (fun _=>rfl) _⟩,by simp[intOf];omega⟩
       rw[<- Qn9,Nat.mul_comm b 8]
       split <;> rfl
      ·obtain rfl:b=8:=by omega
       rw[show((8:Nat):Int)=8 from rfl];have R3:Hid (Row wz g N 5 (fun i => .int .u8 (Qq (Yh ((D.hist l).take (j+1)) (D.img ks)) i))):=R.out.congr (fun i _=>by rw[HFm.out]);have U3:Hid (Upd (· = g) wb wz):=(U.out.alloc _).trans UZ.out (fun _ _ h=>h);go_wp2_with fail
       go_roundw
       case rel=>exact⟨j+1,by omega,by go_num,R3.out,U3.out⟩
       case measure=>simp[intOf];omega
    ·obtain rfl:j=q:=by omega
     have I2:Hid (∃ ks:Nat->Nat,(∀ l,ks l<=(D.hist l).length)/\(∀ l,l∉D.dirtyL.take (k+1)->ks l=0)/\(∀ (i l:Nat),i<k+1->D.dirtyL[i]? = some l->ks l=f i)/\Row wq g N 5 (fun i => .int .u8 (Qq (D.img ks) i))/\Upd (· = g) wb wq):=by
      have hlt2:l∉D.dirtyL.take k:=fun hm=>by
       obtain⟨i,hi,e⟩:=List.mem_iff_getElem.1 hm;have hik:i<k:=by simp at hi;omega
       obtain⟨hkl,e2⟩:=List.getElem?_eq_some_iff.1 HLN.out.1;have e3:D.dirtyL[i]'(by omega)=D.dirtyL[k]:=by rw[e2,<- e];simp
       exact List.pairwise_iff_getElem.1 HND.out.1 i k (by omega) hkl hik e3
      have ht:D.dirtyL.take (k+1)=D.dirtyL.take k ++ [l]:=by rw[List.take_add_one,HLN.out.1];rfl
      refine⟨fun m=>if m=l then j else ks m,fun m => ?_,fun m hm => ?_,fun i m hi hm => ?_,R.out.congr (fun i _=>by
       rw[show Yh ((D.hist l).take j) (D.img ks)=D.img (fun m=>if m=l then j else ks m)from funext fun i=>Qhg D HW.out ks l j HLN.out.2 (KS.out.2.1 l hlt2) i]),U.out⟩
      ·by_cases e:m=l
       ·simp only[if_pos e];rw[e,HHL.out];omega
       ·simp only[if_neg e];exact KS.out.1 m
      ·rw[ht]at hm
       have e:m≠l:=fun e=>hm (by simp[e])
       simp only[if_neg e];exact KS.out.2.1 m (fun h=>hm (by simp[h]))
      ·by_cases e:m=l
       ·simp only[if_pos e]
        have hik:i=k:=by
         obtain⟨a1,a2⟩:=List.getElem?_eq_some_iff.1 hm;obtain⟨b1,b2⟩:=List.getElem?_eq_some_iff.1 HLN.out.1;exact(List.getElem_inj HND.out.1).1 (a2.trans (e.trans b2.symm))
        rw[hik];exact HQQ.out.symm
       ·simp only[if_neg e]
        refine KS.out.2.2 i m ?_ hm
        have:i≠k:=fun h=>by
         rw[h,HLN.out.1]at hm;exact e (Option.some.inj hm).symm
        omega
     go_wp2_with fail
     go_roundw
     case rel=>exact⟨k+1,by omega,by go_num,I2.out⟩
     case measure=>simp[intOf];omega
  ·obtain rfl:k=m:=by omega
   have KIR:=hid (KI.out.upd U.out (fun e=>by have e':w.heap.size+1=g:=e;omega));have c4:=KIR.out.cell (i:=0) (v:=.string ⟨#[]⟩) rfl;have f4:=KIR.out.frozen 0;have hil:=KIR.out.lt;have HN2:=hid (HNEW.out wr g _ R.out);go_wp2_with fail
   (with_reducible refine HN2.out.mono ?_)
   rintro r w2 ⟨s,rfl,s1,s2⟩;have S:=hid s1;have B2:=hid (BR.out.trans (s2.mono BR.out.size));have KI2:=hid (KIR.out.below s2);have c5:=KI2.out.cell (i:=0) (v:=.string ⟨#[]⟩) rfl;have f5:=KI2.out.frozen 0;have hil2:=KI2.out.lt;clear s1 s2 c4 f4;go_wp2_with fail
   have KI3:Blk ((w2.setCell ⟨w.heap.size+1,0,none⟩ (.string s)).alloc (.cells #[.string s] 46)) (w.heap.size+1) #[.string s] 46:=(KI2.out.set 0 (.string s)).alloc _;have d0:=KI3.cell (i:=0) (v:=.string s) rfl;refine bodyPost_ret (v:=.agg #[.string s]) (by simp[results,results43,go_sem,d0]) rfl ⟨ks,s,⟨KS.out.1,fun i l hl=>KS.out.2.2 i l (by have:=(List.getElem?_eq_some_iff.1 hl).1;rw[HM.out]at this;exact this) hl⟩,rfl,S.out,?_⟩
   exact(B2.out.setCell (p:=⟨w.heap.size+1,0,none⟩) (by show w.heap.size<=w.heap.size+1;omega) _).trans ((Qa _ _).mono (by simpa using B2.out.size))
def Qvx(w:World)(D:Dev)(n:Nat)(r:Ending)(w':World):Prop:=∃ (ks:Nat->Nat) (s:ByteArray),((∀ l,ks l<=(D.hist l).length)/\∀ (i l:Nat),D.dirtyL[i]? = some l->ks l=Lx (Qf D) n i)/\r = .returned (.tuple #[.agg #[.string s],.int .i64 0])/\Qle s D.n (D.img ks)/\Below w.heap.size w w'
theorem Se(h:IsDev w v own D)(hvb:D.VB)(hx:D.exec<1000000000)(n:Nat)(hn:n<Qm (Qf D))(hp:Qm (Qf D)<=4611686018427387904)(hq:∀ l∈D.dirtyL,(D.hist l).length<=1000000000) :
  Calls prog 14 #[.pointer (some ⟨v.db,0,none⟩),.int .u64 n] w (Qvx w D n):=by
 have hdl:D.dirtyL.length<=1000000:=by
  have h1:D.dirtyL.length<=D.n:=by unfold Dev.dirtyL;exact Ka D D.n
  have:=h.wf.le;omega
 have B0:=hid (Qa w (.cells #[.string ⟨#[]⟩] 46));have K0:=hid (Blk.new w #[.string ⟨#[]⟩] 46);have HE:=hid (Tz (h.below B0.out) hvb (by omega));have HSP:=hid (fun(wx:World) (pg:Nat) (lv hv:Value) (hs:List Value) (hE:Qk8 D pg lv hv hs wx)=>Lh (N:=64*D.n) hE n hn (by omega) hdl hq);have HIM:=hid (fun(wx:World) (pg:Nat) (lv hv:Value) (hs:List Value) (hE:Qk8 D pg lv hv hs wx) (kb:Nat) (f:Nat->Nat) (hf:Row wx kb D.dirtyL.length 3 (fun i => .int .i64 (f i))) (hfb:∀ (i b:Nat),(Qf D)[i]? = some b->f i<b)=>Qe4 hE h.wf hvb hq kb f hf hfb);obtain⟨N,hN⟩:∃ N,64*D.n=N:=⟨_,rfl⟩;obtain⟨m,hm⟩:∃ m,D.dirtyL.length=m:=⟨_,rfl⟩;rw[hN]at HE HSP HIM;rw[hm]at HSP HIM;clear h hvb hx hq hdl hn hp hN hm
 go_enter func14,ntmps14
 go_wp2_with fail
 (with_reducible refine HE.out.mono ?_)
 rintro r w1 ⟨pg,lv,hv,hs,rfl,hE,b1⟩;obtain⟨la,l1,lc,rfl⟩:∃ la l1 lc,lv = .slice la l1 lc:=by obtain⟨_,a,c,e,_,_⟩:=hE.lines;exact⟨a,_,c,e⟩
 obtain⟨ha,h1,hc,rfl⟩:∃ ha h1 hc,hv = .slice ha h1 hc:=by obtain⟨_,a,c,e,_,_⟩:=hE.hist;exact⟨a,_,c,e⟩
 have E:=hid hE;have B1:=hid (B0.out.trans (b1.mono B0.out.size));have K1:=hid (K0.out.below b1);clear hE b1 HE B0 K0;have b2:=Qa w1 (.cells #[.slice (some ⟨pg,0,none⟩) N N,.slice la l1 lc,.slice ha h1 hc] 95);have X2:=hid (Blk.new w1 #[.slice (some ⟨pg,0,none⟩) N N,.slice la l1 lc,.slice ha h1 hc] 95);have B2:=hid (B1.out.trans (b2.mono B1.out.size));have K2:=hid (K1.out.below b2);have HS2:=hid (HSP.out _ _ _ _ _ (E.out.next b2));have E2:=hid (E.out.next b2);have x0:=X2.out.cell (i:=0) rfl;have x1:=X2.out.cell (i:=1) rfl;have x2:=X2.out.cell (i:=2) rfl;clear b2 HSP;go_wp2_with fail
 (with_reducible refine HS2.out.mono ?_)
 rintro r w3 ⟨kb,f,rfl,f1,f2,f3,b3⟩;have HDG:Hid (∀ (i b:Nat),(Qf D)[i]? = some b->f i=Lx (Qf D) n i):=fun i b hb=>(f2 i b hb).2
 replace f2:∀ (i b:Nat),(Qf D)[i]? = some b->f i<b:=fun i b hb=>(f2 i b hb).1
 have B3:=hid (B2.out.trans (b3.mono B2.out.size));have K3:=hid (K2.out.below b3);have X3:=hid (X2.out.below b3);have HI3:=hid (HIM.out _ _ _ _ _ (E2.out.next b3) kb f f1 f2);have x0:=X3.out.cell (i:=0) rfl;have x1:=X3.out.cell (i:=1) rfl;have x2:=X3.out.cell (i:=2) rfl;clear f1 f2 f3 b3 HS2 HIM;go_wp2_with fail
 (with_reducible refine HI3.out.mono ?_)
 rintro r w4 ⟨ks,s,k1,rfl,k2,b4⟩;have B4:=hid (B3.out.trans (b4.mono B3.out.size));have K4:=hid (K3.out.below b4);have KS:=hid (And.intro k1 k2);have k3:=k1.2
 have c4:=K4.out.cell (i:=0) (v:=.string ⟨#[]⟩) rfl;have f4:=K4.out.frozen 0;have hl4:=K4.out.lt;have KN:Hid (∀ (i l:Nat),D.dirtyL[i]? = some l->ks l=Lx (Qf D) n i):=fun i l hl=>by
  rw[k3 i l hl];exact HDG.out i _ (Fq D i l hl).2
 clear k1 k2 k3 b4 HI3 x0 x1 x2;go_wp2_with fail
 have d0:=(K4.out.set 0 (.string s)).cell (i:=0) (v:=.string s) rfl;refine bodyPost_ret (v:=.tuple #[.agg #[.string s],.int .i64 0]) (by simp[results,results14,go_sem,d0]) rfl ⟨ks,s,⟨KS.out.1.1,KN.out⟩,rfl,KS.out.2,?_⟩
 exact B4.out.setCell (p:=⟨w.heap.size,0,none⟩) (Nat.le_refl _) _
end
end

section
open Go.Maps
attribute [local go_sem ↓] Go.wp_at_zero Go.wp_at_succ
section
variable{w:World}{v:DV}{own:Nat->Option Qp}{D:Dev}{n:Nat}{f:Nat->Int}
theorem Pz(n:Nat){f:Nat->Int}(hf:∀ i,0<=f i/\f i<18446744073709551616):(Dev.fresh n f).VB:=⟨hf,fun i e he=>by cases he⟩
theorem IsDev.words(h:IsDev w v own (Dev.fresh n f)){g:Nat->Int}(hg:∀ i,i<8*n->f i=g i):IsDev w v own (Dev.fresh n g):=
 ⟨⟨h.wf.pos,h.wf.le,h.wf.line,h.wf.cnt,h.wf.note,h.wf.left⟩,h.dev,h.pers.congr (fun i hi=>by show Value.int .u64 (f i) = .int .u64 (g i);rw[hg i hi]),h.cur.congr (fun i hi=>by
   have e1:(Dev.fresh n f).cur i=f i:=by simp[Dev.cur,Dev.fresh,Sl]
   have e2:(Dev.fresh n g).cur i=g i:=by simp[Dev.cur,Dev.fresh,Sl]
   rw[e1,e2,hg i hi]),h.lines,h.thr,h.notes,h.odb,h.opb,h.ocb,h.olb,h.otb,h.onb,h.lt,h.pcs⟩
def Quq(D:Dev)(L:Nat)(e:Bool)(r:Ending):Prop:=
 (L<Qm (Qf D)/\r = .returned (.tuple #[.int .u64 0,.bool false,.int .i64 9])) \/
 (¬ L<Qm (Qf D)/\∃ i,Qlx D e=some i/\i<Qm (Qf D)/\r = .returned (.tuple #[.int .u64 i,.bool true,.int .i64 0])) \/
 (¬ L<Qm (Qf D)/\Qlx D e=none/\r = .returned (.tuple #[.int .u64 0,.bool false,.int .i64 0]))
theorem Qcu{D:Dev}{i:Nat}{ks:Nat->Nat}(hn:4<=D.n)(h:∀ j l:Nat,D.dirtyL[j]? = some l->ks l=Lx (Qf D) i j)(e:Bool):Vk (D.img ks) e=Vk (Vy D i) e:=
 Bf (fun j hj=>Qnk h j (by omega)) e
theorem Qof(h:IsDev w v own D)(hvb:D.VB)(hx:D.exec<1000000)(hn4:4<=D.n)(hp:Qm (Qf D)<=1152921504606846976)(a:Option Addr)(m c:Nat)(e:Bool)(L:Nat)(hL:L<=9223372036854775807) :
  Calls prog 57 #[.iface 83 (.agg #[.slice a m c]),.pointer (some ⟨v.db,0,none⟩),.bool e,.int .i64 L] w fun r w'=>Quq D L e r/\Below w.heap.size w w':=by
 have hn:=h.wf.le;have hql:∀ l∈D.dirtyL,(D.hist l).length<=1000000000:=fun l hl=>by
  have hln:l<D.n:=by
   unfold Dev.dirtyL at hl;have:=(List.mem_filter.1 hl).1;simpa using this
  have:=h.wf.cnt l hln;omega
 have HC:=hid (As h hvb (by omega) (by omega) hql);have HAT:=hid (fun(wx:World) (hb:Below w.heap.size w wx) (i:Nat) (hi:i<Qm (Qf D))=>Se (h.kept hb.size (fun k hk=>hb.block k (h.lt k hk))) hvb (by omega) i hi (by omega) hql);have HDV:=hid (fun(wx:World) (s:ByteArray) (ks:Nat->Nat) (hs:Qle s D.n (D.img ks))=>Gu (w:=wx) hs h.wf.pos hn (fun i=>hvb.img ks i));have hmg:=Bt (.slice a m c);have HGD:=hid (fun(wx:World) (v2:DV) (own2:Nat->Option Qp) (F:Nat->Int) (hF:∀ i,0<=F i/\F i<18446744073709551616) (hd:IsDev wx v2 own2 (Dev.fresh D.n F))=>Hx hd (Pz D.n hF) (by show 3<=D.n;omega) a m c e);have HGI:=hid (fun(i:Nat) (ks:Nat->Nat) (hk:∀ j l:Nat,D.dirtyL[j]? = some l->ks l=Lx (Qf D) i j)=>Qcu hn4 hk e);have HIB:=hid (fun ks i=>hvb.img ks i);have HBA:=hid (fun i h1 h2 h3=>Qwm (D:=D) (e:=e) (i:=i) h1 h2 h3);have HBN:=hid (fun h1=>Qwn (D:=D) (e:=e) h1);unfold Quq;obtain⟨P,hP⟩:∃ P,Qm (Qf D)=P:=⟨_,rfl⟩;rw[hP]at HC HAT HBA HBN hp ⊢;have gL:IntKind.u64.wrap (L:Int)=(L:Int):=IntWalk.u64_in _ (by omega);clear h hvb hql hP
 go_enter func57,ntmps57
 go_wp2_with fail
 (with_reducible refine HC.out.mono ?_)
 rintro r w1 ⟨rfl,b1⟩;have B1:=hid b1;clear b1 HC
 by_cases hLP:L<P
 ·have hLP':(L:Int)<(P:Int):=by omega
  go_wp2_with fail
  go_ret3
  exact⟨.inl ⟨hLP,rfl⟩,B1.out⟩
 ·have hLP':¬ (L:Int)<(P:Int):=by omega
  go_wp2_with fail
  go_loopw [31] (fun y wy=>∃ i:Nat,i<=P/\y = .int .u64 i/\Below w.heap.size w wy/\∀ j,j<i->Vk (Vy D j) e=true) (fun y _=>P-(intOf y).toNat)
  case atStart=>exact⟨0,by omega,rfl,B1.out,fun j hj=>absurd hj (Nat.not_lt_zero j)⟩
  case round=>
   obtain⟨i,hi,rfl,hby,hgd⟩:=hrel;rename World=>wy
   have BY:=hid hby;have GD:=hid hgd
   clear hby hgd
   by_cases hiP:i<P
   ·have hiP':(i:Int)<(P:Int):=by omega
    have HAT1:=hid (HAT.out wy BY.out i hiP);go_wp2_with fail
    (with_reducible refine HAT1.out.mono ?_)
    rintro r w3 ⟨ks,s,k1,rfl,k2,b3⟩;have K1:=hid k1.2;have K2:=hid k2
    have B3:=hid (BY.out.trans (b3.mono BY.out.size));clear k1 k2 b3 HAT1;have HDV1:=hid (fun o=>HDV.out (w3.alloc o) s ks K2.out);go_wp2_with fail
    (with_reducible refine(HDV1.out _).mono ?_)
    rintro r w4 ⟨v2,own2,rfl,⟨F,hF,d2⟩,o2,b4⟩;have D2:=hid (d2.words hF);have B4:=hid (B3.out.trans ((Qa w3 (.cells #[.string s] 46)).mono B3.out.size |>.trans (b4.mono (by simp;exact Nat.le_succ_of_le B3.out.size))));clear hF d2 o2 b4 HDV1;have HGD1:=hid (HGD.out w4 v2 own2 (D.img ks) (fun i=>HIB.out ks i) D2.out);have HGE:=hid (HGI.out i ks K1.out);obtain⟨gv,hgv⟩:∃ gv,Vk (Vy D i) e=gv:=⟨_,rfl⟩;have HGV:=hid hgv;have HGE2:Hid (Vk (Dev.fresh D.n (D.img ks)).pers e=gv):=hid (HGE.out.trans hgv);rw[HGE2.out]at HGD1;clear hgv;go_wp2_with fail
    (with_reducible refine HGD1.out.mono ?_)
    rintro r w5 ⟨rfl,b5⟩;have B5:=hid (B4.out.trans (b5.mono B4.out.size));clear b5
    cases gv
    ·have e1:=HBA.out i hiP HGV.out GD.out
     go_wp2_with fail
     go_ret3
     exact⟨.inr (.inl ⟨hLP,i,e1,hiP,rfl⟩),B5.out⟩
    ·go_wp2_with fail
     go_roundw
     case rel=>exact⟨i+1,by omega,by go_num,B5.out,fun j hj=>by
      rcases Nat.lt_or_ge j i with h1 | h1
      ·exact GD.out j h1
      ·obtain rfl:j=i:=by omega
       exact HGV.out⟩
     case measure=>simp[intOf];omega
   ·obtain rfl:i=P:=by omega
    have hbn:=HBN.out GD.out;go_wp2_with fail
    go_ret3
    exact⟨.inr (.inr ⟨hLP,hbn,rfl⟩),BY.out⟩
end
end

section
open Go.Maps
attribute [local go_sem ↓] Go.wp_at_zero Go.wp_at_succ
section
variable{w:World}{v:DV}{own:Nat->Option Qp}{D:Dev}
theorem Lw(h:IsDev w v own D)(hvb:D.VB)(hx:D.exec<200)(n:Nat)(hn:n<Qm (Qf D))(hp:Qm (Qf D)<=4611686018427387904) :
  Calls prog 58 #[.pointer (some ⟨v.db,0,none⟩),.int .u64 n] w fun r w'=>∃ g,r = .returned (.tuple #[.slice (some ⟨g,0,none⟩) D.dirtyL.length D.dirtyL.length,.int .i64 0])/\Row w' g D.dirtyL.length 5 (fun i => .int .u8 (Lx (Qf D) n i))/\w.heap.size<=g/\Below w.heap.size w w':=by
 have hql:∀ l∈D.dirtyL,(D.hist l).length<=200:=fun l hl=>by
  have hln:l<D.n:=by
   unfold Dev.dirtyL at hl;have:=(List.mem_filter.1 hl).1;simpa using this
  have:=h.wf.cnt l hln;omega
 have hdl:D.dirtyL.length<=1000000:=by
  have h1:D.dirtyL.length<=D.n:=by unfold Dev.dirtyL;exact Ka D D.n
  have:=h.wf.le;omega
 have HE:=hid (Tz h hvb (by omega));have HSP:=hid (fun(wx:World) (pg:Nat) (lv hv:Value) (hs:List Value) (hE:Qk8 D pg lv hv hs wx)=>Lh (N:=64*D.n) hE n hn (by omega) hdl (fun l hl=>by have:=hql l hl;omega));have HQL:=hid hql;have HBA:=hid (Fq D);obtain⟨N,hN⟩:∃ N,64*D.n=N:=⟨_,rfl⟩;obtain⟨m,hm⟩:∃ m,D.dirtyL.length=m:=⟨_,rfl⟩;have HM:=hid hm;rw[hN]at HE HSP;rw[hm]at HSP hdl ⊢;have hmk:=fun(wx:World)=>Qan wx m hdl
 clear h hvb hx hn hp hN hm hql
 go_enter func58,ntmps58
 go_wp2_with fail
 (with_reducible refine HE.out.mono ?_)
 rintro r w1 ⟨pg,lv,hv,hs,rfl,hE,b1⟩;obtain⟨la,lc,rfl⟩:∃ la lc,lv = .slice la m lc:=by obtain⟨_,a,c,e,_,_⟩:=hE.lines;rw[HM.out]at e;exact⟨a,c,e⟩
 obtain⟨ha,hc,rfl⟩:∃ ha hc,hv = .slice ha m hc:=by obtain⟨_,a,c,e,_,_⟩:=hE.hist;rw[HM.out]at e;exact⟨a,c,e⟩
 have B1:=hid b1;have b2:=Qa w1 (.cells #[.slice (some ⟨pg,0,none⟩) N N,.slice la m lc,.slice ha m hc] 95);have X2:=hid (Blk.new w1 #[.slice (some ⟨pg,0,none⟩) N N,.slice la m lc,.slice ha m hc] 95);have B2:=hid (B1.out.trans (b2.mono B1.out.size));have E2:=hid (hE.next b2);have HS2:=hid (HSP.out _ _ _ _ _ E2.out);have x0:=X2.out.cell (i:=0) rfl;have x1:=X2.out.cell (i:=1) rfl;have x2:=X2.out.cell (i:=2) rfl;clear b1 b2 hE HE HSP;go_wp2_with fail
 (with_reducible refine HS2.out.mono ?_)
 rintro r w3 ⟨kb,f,rfl,f1,f2,f3,b3⟩;have B3:=hid (B2.out.trans (b3.mono B2.out.size));have X3:=hid (X2.out.below b3);have E3:=hid (E2.out.next b3);have F1:=hid (And.intro f1 f2);clear f1 f2 f3 b3 HS2 x0 x1 x2 E2 X2;have M0:Hid (Row (w3.alloc (.cells (madeCells #[.int .u8 0] m) 5)) w3.heap.size m 5 (fun i => .int .u8 (if i<0 then(Lx (Qf D) n i:Int)else 0))/\Upd (· = w3.heap.size) (w3.alloc (.cells (madeCells #[.int .u8 0] m) 5)) (w3.alloc (.cells (madeCells #[.int .u8 0] m) 5))):=⟨(Mb w3 5 .u8 m).congr (fun i _=>by simp),Upd.refl _ _⟩;have BM:Hid (Below w3.heap.size w3 (w3.alloc (.cells (madeCells #[.int .u8 0] m) 5))):=hid (Qa _ _);go_wp2_with fail
 obtain⟨wb,hwb⟩:∃ wb,w3.alloc (.cells (madeCells #[.int .u8 0] m) 5)=wb:=⟨_,rfl⟩;rw[hwb]at M0 BM ⊢;clear hwb
 go_loopw [29] (fun y wr=>∃ k:Nat,k<=m/\y = .int .i64 k/\Row wr w3.heap.size m 5 (fun i => .int .u8 (if i<k then(Lx (Qf D) n i:Int)else 0))/\Upd (· = w3.heap.size) wb wr) (fun y _=>m-(intOf y).toNat)
 case atStart=>exact⟨0,by omega,rfl,M0.out⟩
 case round=>
  clear M0;obtain⟨k,hk,rfl,hr,hu⟩:=hrel;rename World=>wr
  have R:=hid hr;have BR:Hid (Below w3.heap.size w3 wr):=hid ⟨hu.os.trans BM.out.os,hu.tape.trans BM.out.tape,hu.output.trans BM.out.output,Nat.le_trans BM.out.size hu.size,fun j hj=>(hu.block j (Nat.lt_of_lt_of_le hj BM.out.size) (fun e=>by have e':j=w3.heap.size:=e;omega)).trans (BM.out.block j hj)⟩;have U:=hid hu;clear hr hu
  by_cases hlt:k<m
  ·have hlt':(k:Int)<m:=by omega
   obtain⟨l,hl⟩:∃ l,D.dirtyL[k]? = some l:=⟨_,List.getElem?_eq_getElem (by rw[HM.out];exact hlt)⟩;have hq1:=HQL.out l (List.mem_of_getElem? hl);obtain⟨hb1,hb2⟩:=HBA.out k l hl;obtain⟨hfk,hfd⟩:=F1.out.2 k _ hb2;have E4:=E3.out.next BR.out;obtain⟨u,r1,r2⟩:=E4.row k l hl;have hhb:=E4.hist;rw[HM.out]at hhb;obtain⟨_,_,_,e',_,hE⟩:=hhb
   cases e'
   obtain⟨hb,ho,rfl,hE2⟩:=Zr hE r1;have c1:=hE2 k _ r1;obtain⟨ua,q,uc,rfl,hqe⟩:∃ ua q uc,u = .slice ua q uc/\q=(D.hist l).length:=by obtain⟨_,a,c,e,_,_⟩:=r2;exact⟨a,_,c,e,rfl⟩
   rw[<- hqe]at hq1 hfk;have c2:=(F1.out.1.below BR.out).cell (i:=k) hlt;have x2:=(X3.out.below BR.out).cell (i:=2) rfl;have d1:=R.out.cell (i:=k) hlt;have d2:=R.out.frozen k;have hgl:=R.out.lt;obtain⟨z,hz⟩:∃ z,f k=z:=⟨_,rfl⟩;rw[hz]at c2 hfk hfd;have gz:IntKind.u8.wrap (z:Int)=(z:Int):=IntWalk.u8_in _ (by omega);have HFD:=hid hfd;clear hE hE2 r1 r2 E4 hl hb1 hb2 hqe hz;go_wp2_with fail
   go_roundw
   case rel=>
    refine⟨k+1,by omega,by go_num,(R.out.set k _).congr (fun i _ => ?_),U.out.setCell (fun _=>rfl) _⟩
    by_cases e:i=k
    ·subst e
     rw[if_pos rfl,if_pos (by omega)]
    ·rw[if_neg e]
     by_cases e2:i<k
     ·rw[if_pos e2,if_pos (by omega)]
     ·rw[if_neg e2,if_neg (by omega)]
   case measure=>simp[intOf];omega
  ·obtain rfl:k=m:=by omega
   go_wp2_with fail
   go_ret2
   exact⟨w3.heap.size,rfl,R.out.congr (fun i hi=>by rw[if_pos hi]),B3.out.size,B3.out.trans (BR.out.mono B3.out.size)⟩
end
end

section
open Go.Maps
attribute [local go_sem ↓] Go.wp_at_zero Go.wp_at_succ
theorem Yd{w wx:World}{b B:Nat}(h:Below B w wx)(hb:B<=b)(v0 v1 v2:Value):Below B w (((wx.setCell ⟨b,0,none⟩ v0).setCell ⟨b,1,none⟩ v1).setCell ⟨b,2,none⟩ v2):=((h.setCell hb _).setCell hb _).setCell hb _
section
variable{w:World}{v:DV}{own:Nat->Option Qp}{D0:Dev}
structure FiS(w:World)(v:DV)(own:Nat->Option Qp)(D0:Dev)(q:List (Nat×Nat×Int))(w1:World)(b:Nat)(C:Array Value)(t:TypeId)(k:Nat)(wr:World):Prop where
 post:Qr v own w1 (D0.run 0 (q.take k)) wr
 res:Blk wr b C t
 bel:Below w.heap.size w wr
 own:∀ j,own j≠none->w.heap.size<=j/\j≠b
 sz:w.heap.size<=w1.heap.size
 bz:w.heap.size<=b/\b<w1.heap.size
section
variable{q:List (Nat×Nat×Int)}{w1 wr wz:World}{b k:Nat}{C:Array Value}{t:TypeId}
theorem FiS.next(h:FiS w v own D0 q w1 b C t k wr)(hb:Below wr.heap.size wr wz):FiS w v own D0 q w1 b C t k wz:=by
 obtain⟨own1,d1,o1,u1⟩:=h.post;exact⟨⟨own1,d1.kept hb.size (fun k hk=>hb.block k (d1.lt k hk)),o1,u1.trans (Upd.of_below hb) (fun _ _ h=>h)⟩,h.res.below hb,h.bel.trans (hb.mono h.bel.size),h.own,h.sz,h.bz⟩
theorem FiS.start(h:IsDev w1 v own D0)(hr:Blk w1 b C t)(hb:Below w.heap.size w w1)(ho:∀ j,own j≠none->w.heap.size<=j/\j≠b)(hz:w.heap.size<=b):FiS w v own D0 q w1 b C t 0 w1:=
 ⟨Qr.refl h,hr,hb,ho,hb.size,⟨hz,hr.lt⟩⟩
theorem FiS.run(h:FiS w v own D0 q w1 b C t k wr){own1:Nat->Option Qp}(o1:∀ j,j<w1.heap.size->own1 j=own j)(u1:Upd (fun j=>own j≠none) w1 wr){e:Nat×Nat×Int}(he:q[k]? = some e)(hp:Qr v own1 wr ((D0.run 0 (q.take k)).run 0 [e]) wz):FiS w v own D0 q w1 b C t (k+1) wz:=by
 have e1:(D0.run 0 (q.take k)).run 0 [e]=D0.run 0 (q.take (k+1)):=by rw[Ll q k e he,Dev.run_append]
 rw[e1]at hp;have hu:Upd (fun j=>own1 j≠none) wr wz:=by obtain⟨_,_,_,hu⟩:=hp;exact hu
 have hb1:own1 b=none:=by
  rw[o1 b h.bz.2]
  cases hh:own b with
  | none=>rfl
  | some x=>exact absurd rfl ((h.own b (by rw[hh];simp)).2)
 refine⟨Qr.next o1 u1 hp,h.res.upd hu (by simpa using hb1),⟨hu.os.trans h.bel.os,hu.tape.trans h.bel.tape,hu.output.trans h.bel.output,Nat.le_trans h.bel.size hu.size,fun j hj => ?_⟩,h.own,h.sz,h.bz⟩
 have hj1:j<w1.heap.size:=Nat.lt_of_lt_of_le hj h.sz;rw[hu.block j (Nat.lt_of_lt_of_le hj h.bel.size) (by
  rw[o1 j hj1]
  cases hh:own j with
  | none=>simp
  | some x=>have:=(h.own j (by rw[hh];simp)).1;omega)]
 exact h.bel.block j hj
end
theorem Fh(fb fo M sc k:Nat)(h:k+1<=sc)(wx:World):(Instr.slice 37 (.slice (some ⟨fb,fo,none⟩) M sc) (some (.int .i64 k)) (some (.int .i64 ((k:Int)+1))) none).run prog wx = .ok (.slice (some ⟨fb,fo+k*3,none⟩) 1 (sc-k)) wx:=by
 have hne:¬ sc=k:=by omega
 rw[run_slice_lh wx 37 _ M sc (by kernel_rfl) .i64 .i64 _ _ (by omega) (by omega) (by omega)];have hs:(sizeOf (Tryz.prog.elem 37)).run prog wx = .ok 3 wx:=by kernel_rfl
 rw[hs];have e1:((k:Int)).toNat=k:=by omega
 have e2:((k:Int)+1).toNat=k+1:=by omega
 have e3:(⟨fb,fo,none⟩:Addr).add (k*3)=⟨fb,fo+k*3,none⟩:=Addr.add_mid _ _ _;simp[Result.andThen,sliced,e1,e2,hne,e3]
theorem Gb(fb fo M sc k:Nat)(h:k+1<=sc)(wx:World):(Instr.sliceAt 37 (.slice (some ⟨fb,fo,none⟩) M sc) (some (.int .i64 k)) (some (.int .i64 ((k:Int)+1))) none).run prog wx = .ok (.slice (some ⟨fb,fo+k*3,none⟩) 1 (sc-k)) wx:=by
 rw[run_sliceAt_slice wx 37 _ _ _ _ (by kernel_rfl)];exact Fh fb fo M sc k h wx
def FiP(D0:Dev)(Q:List (Nat×Nat×Int))(is:Bool)(f:Int)(L:Nat)(r:Ending)(w':World):Prop:=
 (is=false/\r = .returned (.tuple #[.agg #[.int .i64 0,.int .i64 0,.slice none 0 0],.bool false,.int .i64 2])) \/
 (is=true/\(fnd D0 Q L).2.2=2/\r = .returned (.tuple #[.agg #[.int .i64 0,.int .i64 0,.slice none 0 0],.bool false,.int .i64 9])) \/
 (is=true/\(fnd D0 Q L).2.2=1/\r = .returned (.tuple #[.agg #[.int .i64 0,.int .i64 0,.slice none 0 0],.bool false,.int .i64 0])) \/
 (is=true/\∃ (k i g:Nat),fnd D0 Q L=(k,i,0)/\k<=Q.length/\i<Qm (Qf (D0.run 0 (Q.take k))) /\
  r = .returned (.tuple #[.agg #[.int .i64 f,.int .i64 k,.slice (some ⟨g,0,none⟩) (D0.run 0 (Q.take k)).dirtyL.length (D0.run 0 (Q.take k)).dirtyL.length],.bool true,.int .i64 0]) /\
  Row w' g (D0.run 0 (Q.take k)).dirtyL.length 5 (fun j => .int .u8 (Lx (Qf (D0.run 0 (Q.take k))) i j)))
def Qlc(n:Nat)(q:List (Nat×Nat×Int))(f L:Int)(r:Ending)(w':World):Prop:=
 (L<1/\r = .returned (.tuple #[.agg #[.int .i64 0,.int .i64 0,.slice none 0 0],.bool false,.int .i64 1]))\/(1<=L/\FiP (Dev.fresh n (fun _=>0)) (qOf f q) (Rd f q) f L.toNat r w')
theorem Eu(n:Nat)(pv:Value)(q:List (Nat×Nat×Int))(h:Ql w 3 pv q.length (Cy q))(hq:∀ e∈q,OkQ n e)(hpl:Mr q)(hl:q.length<=60)(h4:4<=n)(hn:n<=4096)(f L:Int)(_hf0 : -9223372036854775808<=f/\f<=9223372036854775807)(hL:L<=9223372036854775807) :
  Calls prog 22 #[.iface 83 (.agg #[pv]),.int .i64 n,.int .i64 f,.int .i64 L] w fun r w'=>Qlc n q f L r w'/\Below w.heap.size w w':=by
 have K0:=hid (Blk.new w #[.int .i64 0,.int .i64 0,.slice none 0 0] 64);have B0:=hid (Qa w (.cells #[.int .i64 0,.int .i64 0,.slice none 0 0] 64))
 by_cases hL1:L<1
 ·clear h hq hpl
  go_enter func22,ntmps22
  go_wp2_with fail
  refine bodyPost_ret (v:=.tuple #[.agg #[.int .i64 0,.int .i64 0,.slice none 0 0],.bool false,.int .i64 1]) (by simp[results,results22,go_sem]) rfl ⟨.inl ⟨hL1,rfl⟩,?_⟩
  exact B0.out
 ·have hL1':¬ L<1:=hL1
  obtain⟨LN,hLN⟩:∃ LN:Nat,L=LN:=⟨L.toNat,by omega⟩;subst hLN;have HTryz:=hid (So pv q (h.alloc (.cells #[.int .i64 0,.int .i64 0,.slice none 0 0] 64)) (fun e he=>⟨(hq e he).lo,(hq e he).hi⟩) hpl (by omega) n (by omega) hn f);have HQ:Hid (∀ e∈qOf f q,OkQ n e):=hid (fun e he=>hq e (Nw e he));have hql:=Cf f q;obtain⟨_,a,c,rfl,_,_⟩:=h;have hLN1:1<=(LN:Int):=by omega
  obtain⟨mq,hmq⟩:∃ mq,q.length=mq:=⟨_,rfl⟩;rw[hmq]at HTryz hl hql ⊢;clear hq hpl hmq;refine Calls.mono (R:=fun r w'=>FiP (Dev.fresh n (fun _=>0)) (qOf f q) (Rd f q) f LN r w'/\Below w.heap.size w w') ?_ (fun r w' hh=>⟨.inr ⟨hLN1,hh.1⟩,hh.2⟩)
  unfold Qll at HTryz;obtain⟨Q,hQ⟩:∃ Q,qOf f q=Q:=⟨_,rfl⟩;rw[hQ]at HTryz HQ hql ⊢;obtain⟨is,his⟩:∃ is,Rd f q=is:=⟨_,rfl⟩;rw[his]at HTryz ⊢;clear hQ his;have HD0:Hid ((Dev.fresh n (fun _=>0)).n=n/\(Dev.fresh n (fun _=>0)).exec=0/\(Dev.fresh n (fun _=>0)).VB):=⟨rfl,rfl,Pz n (fun i=>by omega)⟩;have HPR:Hid (∀ k,k<=Q.length->Qm (Qf ((Dev.fresh n (fun _=>0)).run 0 (Q.take k)))<=1152921504606846976):=fun k hk=>Qi9 n _ (by rw[List.length_take];omega)
  obtain⟨D0,hD0⟩:∃ D0,Dev.fresh n (fun _=>0)=D0:=⟨_,rfl⟩;rw[hD0]at HTryz HD0 HPR ⊢;clear hD0;have HF0:Hid (fnd D0 Q LN=fndL D0 Q LN (Q.length+1-0) 0):=rfl;have HFM:=hid (fun k mm=>Qhd (D0:=D0) (q:=Q) (limit:=LN) (m:=mm) (k:=k));have HFB:=hid (fun k mm x=>Qm9 (D0:=D0) (q:=Q) (limit:=LN) (m:=mm) (k:=k) (n:=x));have HFN:=hid (fun k mm=>Qhe (D0:=D0) (q:=Q) (limit:=LN) (m:=mm) (k:=k));have HRV:Hid (∀ k,(D0.run 0 (Q.take k)).VB/\(D0.run 0 (Q.take k)).exec<=Q.length/\(D0.run 0 (Q.take k)).n=n):=fun k=>by
   have h1:=D0.run_exec 0 (Q.take k);have h2:=List.length_take_le' k Q;rw[HD0.out.2.1]at h1;refine⟨Dev.VB.run _ HD0.out.2.2 0 (fun e he h1 => ?_),by omega,by rw[Pj];exact HD0.out.1⟩
   have:=HQ.out e (List.mem_of_mem_take he);exact⟨this.v0,this.v1⟩
  obtain⟨res,hres⟩:∃ res,fnd D0 Q LN=res:=⟨_,rfl⟩;have HRS:=hid hres;rw[hres]at HF0;clear hres;obtain⟨M,hM⟩:∃ M,Q.length=M:=⟨_,rfl⟩;have HM:=hid hM;rw[hM]at HTryz hql HPR HF0 HFB HFN HRV;clear hM
  go_enter func22,ntmps22
  go_wp2_with fail
  (with_reducible refine HTryz.out.mono ?_)
  rintro r w1 ⟨⟨hi1,rfl⟩ | ⟨hi1,v,own,sv,rfl,d1,r1,o1,s1⟩,b1⟩
  ·subst hi1
   have K1:=hid (K0.out.below b1);have B1:=hid (B0.out.trans (b1.mono B0.out.size));have r0:=K1.out.cell (i:=0) rfl;have r1:=K1.out.cell (i:=1) rfl;have r2:=K1.out.cell (i:=2) rfl
   have f0:=K1.out.frozen 0;have f1:=K1.out.frozen 1;have f2:=K1.out.frozen 2
   clear b1;go_wp2_with fail
   refine bodyPost_ret (v:=.tuple #[.agg #[.int .i64 0,.int .i64 0,.slice none 0 0],.bool false,.int .i64 2]) (by simp[results,results22,go_sem,r0,r1,r2]) rfl ⟨.inl ⟨rfl,rfl⟩,?_⟩
   exact Yd B1.out (Nat.le_refl _) _ _ _
  ·subst hi1
   obtain⟨sa,sc,hsv⟩:∃ sa sc,sv = .slice sa M sc:=by obtain⟨_,a,c,e,_,_⟩:=r1;exact⟨a,c,e⟩
   subst hsv;have hMc:M<=sc:=by obtain⟨_,_,_,e,h1,_⟩:=r1;cases e;exact h1
   have BB:=hid (B0.out.trans (b1.mono B0.out.size));have S1:Hid (FiS w v own D0 Q w1 w.heap.size #[.int .i64 0,.int .i64 0,.slice none 0 0] 64 0 w1):=hid (FiS.start d1 (K0.out.below b1) BB.out (fun j hj=>by have:=o1 j hj;rw[World.size_alloc]at this;omega) (Nat.le_refl _));have R1:=hid r1;have S2:=hid s1
   clear d1 r1 o1 s1 b1 K0 B0 HTryz;go_wp2_with fail
   go_loopw [14] (fun y wr=>∃ k:Nat,k<=M/\y = .int .i64 k/\FiS w v own D0 Q w1 w.heap.size #[.int .i64 0,.int .i64 0,.slice none 0 0] 64 k wr/\res=fndL D0 Q LN (M+1-k) k) (fun y _=>M-(intOf y).toNat)
   case atStart=>exact⟨0,by omega,rfl,S1.out,HF0.out⟩
   case round=>
    clear S1 HF0;obtain⟨k,hk,rfl,hst,hr⟩:=hrel;rename World=>wr
    obtain⟨own1,d1,o1,u1⟩:=hst.post;have S:=hid hst;have D1:=hid d1;have O1:=hid o1;have U1:=hid u1;have HR:=hid hr
    clear hst d1 o1 u1 hr;obtain⟨hv1,hx1,hn1⟩:=HRV.out k;have hpr:=HPR.out k hk;obtain⟨eb,heb⟩:∃ eb,((k:Int)==(M:Int))=eb:=⟨_,rfl⟩;have hde:decide (k=M)=eb:=by
     rw[<- heb]
     by_cases hkm:k=M
     ·subst hkm;simp
     ·have:¬ (k:Int)=(M:Int):=by omega
      simp[hkm,this]
    have hmk:M+1-k=M-k+1:=by omega
    have HFM1:=hid (HFM.out k (M-k));have HFB1:=hid (HFB.out k (M-k));have HFN1:=hid (HFN.out k (M-k));rw[hmk]at HR;rw[<- HR.out]at HFM1 HFB1 HFN1;rw[hde]at HFB1 HFN1;have HIN:=hid (Qof D1.out hv1 (by omega) (by omega) hpr a mq c eb LN (by omega));have HCH:=hid (fun(wx:World) (hb:Below wr.heap.size wr wx) (i:Nat) (hi:i<Qm (Qf (D0.run 0 (Q.take k))))=>Lw (D1.out.kept hb.size (fun k hk=>hb.block k (D1.out.lt k hk))) hv1 (by omega) i hi (by omega));have HEB:=hid hde;clear HR hde hmk hv1 hx1 hn1 hpr;go_wp2_with fail
    (with_reducible refine HIN.out.mono ?_)
    rintro r w2 ⟨⟨hLP,rfl⟩ | ⟨hLP,i,hbi,hip,rfl⟩ | ⟨hLP,hbn,rfl⟩,b2⟩
    ·have K2:=hid (S.out.res.below b2)
     have B2:=hid (S.out.bel.trans (b2.mono S.out.bel.size));have e:=HFM1.out hLP;subst e;have HRS2:=HRS.out;have r0:=K2.out.cell (i:=0) rfl;have r1:=K2.out.cell (i:=1) rfl;have r2:=K2.out.cell (i:=2) rfl
     have f0:=K2.out.frozen 0;have f1:=K2.out.frozen 1;have f2:=K2.out.frozen 2
     clear b2;go_wp2_with fail
     refine bodyPost_ret (v:=.tuple #[.agg #[.int .i64 0,.int .i64 0,.slice none 0 0],.bool false,.int .i64 9]) (by simp[results,results22,go_sem,r0,r1,r2]) rfl ⟨.inr (.inl ⟨rfl,by rw[HRS2],rfl⟩),?_⟩
     exact Yd B2.out (Nat.le_refl _) _ _ _
    ·have e:=HFB1.out i hLP hbi
     subst e;have HRS2:=hid HRS.out;have B2:=hid b2;have HC1:=hid (HCH.out w2 b2 i hip);clear b2 HCH HFM1 HFB1 HFN1;obtain⟨DD,hDD⟩:∃ DD,D0.run 0 (Q.take k)=DD:=⟨_,rfl⟩;have HDD:=hid hDD;rw[hDD]at HC1 hip;obtain⟨dm,hdm⟩:∃ dm,DD.dirtyL.length=dm:=⟨_,rfl⟩;have HDM:=hid hdm;rw[hdm]at HC1;clear hDD hdm;go_wp2_with fail
     (with_reducible refine HC1.out.mono ?_)
     rintro r w3 ⟨g,rfl,rg,hg,b3⟩;have K3:=hid ((S.out.res.below B2.out).below b3);have B3:=hid ((S.out.bel.trans (B2.out.mono S.out.bel.size)).trans (b3.mono (Nat.le_trans S.out.bel.size B2.out.size)));have RG:=hid rg;have hgl:=rg;have r0:=K3.out.cell (i:=0) rfl;have r1:=K3.out.cell (i:=1) rfl;have r2:=K3.out.cell (i:=2) rfl
     have f0:=K3.out.frozen 0;have f1:=K3.out.frozen 1;have f2:=K3.out.frozen 2
     have HGG:Hid (w.heap.size<g):=hid (by have h1:=S.out.bel.size;have h2:=B2.out.size;have h3:=S.out.sz;have h4:=S.out.res.lt;omega);clear rg hg b3 hgl;go_wp2_with fail
     refine bodyPost_ret (v:=.tuple #[.agg #[.int .i64 f,.int .i64 k,.slice (some ⟨g,0,none⟩) dm dm],.bool true,.int .i64 0]) (by simp[results,results22,go_sem,r0,r1,r2]) rfl ⟨.inr (.inr (.inr ⟨rfl,k,i,g,HRS2.out,by rw[HM.out];exact hk,by rw[HDD.out];exact hip,by rw[HDD.out,HDM.out],?_⟩)),?_⟩
     ·rw[HDD.out,HDM.out]
      have hne:g≠w.heap.size:=by have:=HGG.out;omega
      exact((RG.out.other (a:=⟨w.heap.size,0,none⟩) hne _).other (a:=⟨w.heap.size,1,none⟩) hne _).other (a:=⟨w.heap.size,2,none⟩) hne _
     ·exact Yd B3.out (Nat.le_refl _) _ _ _
    ·have e:=HFN1.out hLP hbn
     have HE:=hid e;have S2':=hid (S.out.next b2);clear e HFM1 HFB1 HFN1 HCH
     by_cases hkM:k=M
     ·have hebt:eb=true:=by rw[<- HEB.out,decide_eq_true hkM]
      subst hebt;have K2:=hid S2'.out.res;have r0:=K2.out.cell (i:=0) rfl;have r1:=K2.out.cell (i:=1) rfl;have r2:=K2.out.cell (i:=2) rfl
      have f0:=K2.out.frozen 0;have f1:=K2.out.frozen 1;have f2:=K2.out.frozen 2
      have e:=HE.out;rw[show M-k=0 by omega]at e;subst e;have HRS2:=HRS.out;clear b2;go_wp2_with fail
      refine bodyPost_ret (v:=.tuple #[.agg #[.int .i64 0,.int .i64 0,.slice none 0 0],.bool false,.int .i64 0]) (by simp[results,results22,go_sem,r0,r1,r2]) rfl ⟨.inr (.inr (.inl ⟨rfl,by rw[HRS2];rfl,rfl⟩)),?_⟩
      exact Yd S2'.out.bel (Nat.le_refl _) _ _ _
     ·have hebf:eb=false:=by rw[<- HEB.out,decide_eq_false hkM]
      subst hebf;have D2:=hid (D1.out.kept b2.size (fun k hk=>b2.block k (D1.out.lt k hk)));have U2:=hid (U1.out.trans (Upd.of_below (S:=fun j=>own j≠none) b2) (fun _ _ h=>h));clear b2;obtain⟨e,hge⟩:∃ e,Q[k]? = some e:=⟨_,List.getElem?_eq_getElem (by rw[HM.out];omega)⟩;have hkM':k<M:=by omega
      obtain⟨_,a',c',e',_,hE⟩:=R1.out.upd U2.out (fun g hg=>by simpa using S2.out g hg)
      cases e'
      have hg:=Yf Q k e hge;obtain⟨fb,fo,rfl,hE2⟩:=Zr hE hg.1;have q1:=hE2 _ _ hg.1;have q2:=hE2 _ _ hg.2.1;have q3:=hE2 _ _ hg.2.2
      have hok:=HQ.out e (List.mem_of_getElem? hge);have hone:Ql w2 3 (.slice (some ⟨fb,fo+k*3,none⟩) 1 (sc-k)) 1 (Qd [e]):=by
       refine⟨rfl,_,_,rfl,by omega,.inr ⟨fb,fo+k*3,rfl,fun j u hu => ?_⟩⟩
       have hj:j<3:=by
        rcases Nat.lt_or_ge j 3 with h | h
        ·exact h
        ·rw[List.getElem?_eq_none (by simp[Qd];omega)]at hu;cases hu
       obtain rfl | rfl | rfl:j=0\/j=1\/j=2:=by omega
       ·cases hu;exact q1
       ·cases hu;rw[Nat.add_assoc];exact q2
       ·cases hu;rw[Nat.add_assoc];exact q3
      have hofb:own1 fb=none:=by
       have h1:=S2.out fb rfl;have h2:fb<w1.heap.size:=by
        have hrr:=R1.out;obtain⟨_,a2,c2,e2,_,hE3⟩:=hrr
        cases e2
        obtain⟨b3,o3,e3,hE4⟩:=Zr hE3 hg.1
        cases e3
        exact World.block_lt_of_cell? _ _ (hE4 _ _ hg.1)
       rw[O1.out fb h2];exact h1
      have HRUN:=hid (Km (w:=w2.drew) (v:=v) (own:=own1) (D:=D0.run 0 (Q.take k)) (j:=0) D2.out.drew (by omega) (.slice (some ⟨fb,fo+k*3,none⟩) 1 (sc-k)) [e] hone.drew (fun g hg=>by simp[Value.ownBlock]at hg;subst hg;exact hofb) (fun x hx=>by
       rw[List.mem_singleton]at hx;subst hx;exact⟨hok.lo,hok.hi,by have:=hok.lt;omega⟩) (by simp) (by have:=(HRV.out k).2.1;show _+1<_;omega))
      have HSR:=hid (fun(wz:World) (hp:Qr v own1 w2.drew ((D0.run 0 (Q.take k)).run 0 [e]) wz)=>FiS.run (w:=w) (wr:=w2) S2'.out O1.out U2.out hge (by obtain⟨o9,d9,e9,u9⟩:=hp;exact⟨o9,d9,e9,⟨u9.os,u9.tape,u9.output,u9.size,u9.block⟩⟩));have HTH:=hid (Xa D2.out.drew);have hkc:(k:Int)+1<=sc:=by omega
      have hek:¬ (k:Int)=(M:Int):=by omega
      obtain⟨ek,hek2⟩:∃ ek,((D0.run 0 (Q.take k)).run 0 [e]).err 0=ek:=⟨_,rfl⟩;rw[hek2]at HRUN;have hck:¬ sc=k:=by omega
      have gk1:IntKind.i64.wrap ((k:Int)+1)=(k:Int)+1:=IntWalk.i64_in _ (by omega);have hsl1:=fun wx=>Fh fb fo M sc k (by omega) wx
      have hsl2:=fun wx=>Gb fb fo M sc k (by omega) wx
      clear hE hE2 hge hg q1 q2 q3 hone hofb hek2 D1 D2 U1 U2;go_wp2_with fail
      go_region_with (first | (go_at_call 11;(with_reducible refine HTH.out.mono ?_);rintro e w' ⟨rfl,rfl⟩) | (go_at_call 12;(with_reducible refine HRUN.out.mono ?_);rintro e w3 ⟨rfl,hp⟩;have S3:=hid (HSR.out _ hp);clear hp))
      all_goals
       have hm2:M-k=M+1-(k+1):=by omega
       have HE2:=hid HE.out;rw[hm2]at HE2;go_wp2_with fail
       go_roundw
       case rel=>exact⟨k+1,by omega,by go_num,S3.out,HE2.out⟩
       case measure=>simp[intOf];omega
end
end

section
open Go.Maps
attribute [local go_sem ↓] Go.wp_at_zero Go.wp_at_succ
section
variable{w:World}{v:DV}{own:Nat->Option Qp}{D0:Dev}
def Qup(code:Nat)(r:Ending):Prop:=
 (code=2/\r = .returned (.tuple #[.bool false,.int .i64 9]))\/(code≠2/\r = .returned (.tuple #[.bool (decide (code=1)),.int .i64 0]))
theorem Qfw(n:Nat)(pv:Value)(q:List (Nat×Nat×Int))(h:Ql w 3 pv q.length (Cy q))(hq:∀ e∈q,OkQ n e)(hpl:Mr q)(hl:q.length<=60)(h4:4<=n)(hn:n<=4096)(L:Nat)(hL0:1<=L)(hL:L<=9223372036854775807) :
  Calls prog 8 #[.iface 83 (.agg #[pv]),.int .i64 n,.int .i64 L] w fun r w'=>Qup (fnd (Dev.fresh n (fun _=>0)) q L).2.2 r/\Below w.heap.size w w':=by
 have HF:=hid (Eu n pv q h hq hpl hl h4 hn (-1) L ⟨by omega,by omega⟩ (by omega));have e1:qOf (-1) q=q:=by simp[qOf]
 have e2:Rd (-1) q=true:=by simp[Rd]
 have HL0:Hid (¬ (L:Int)<1):=by show ¬ (L:Int)<1;omega
 obtain⟨_,a,c,rfl,_,_⟩:=h;unfold Qlc at HF;rw[e1,e2,show((L:Int)).toNat=L from rfl]at HF;obtain⟨D0,hD0⟩:∃ D0,Dev.fresh n (fun _=>0)=D0:=⟨_,rfl⟩;rw[hD0]at HF ⊢;obtain⟨m,hm⟩:∃ m,q.length=m:=⟨_,rfl⟩;rw[hm]at HF ⊢;clear hq hpl hm hD0 e1 e2
 go_enter func8,ntmps8
 go_wp2_with fail
 (with_reducible refine HF.out.mono ?_)
 rintro r w1 ⟨⟨h1,_⟩ | ⟨_,hp⟩,b1⟩
 ·exact absurd h1 (by have:=HL0.out;omega)
 have B1:=hid b1;clear b1 HF
 rcases hp with ⟨h1,_⟩ | ⟨_,h2,rfl⟩ | ⟨_,h2,rfl⟩ | ⟨_,k,i,g,h2,_,_,rfl,_⟩
 ·cases h1
 ·have X:=hid h2
  clear h2;go_wp2_with fail
  go_ret2
  exact⟨.inl ⟨X.out,rfl⟩,B1.out.trans ((Qa _ _).mono B1.out.size)⟩
 ·have X:=hid h2
  clear h2;go_wp2_with fail
  go_ret2
  exact⟨.inr ⟨by rw[X.out];decide,by rw[X.out];rfl⟩,B1.out.trans ((Qa _ _).mono B1.out.size)⟩
 ·have X:Hid ((fnd D0 q L).2.2=0):=by show(fnd D0 q L).2.2=0;rw[h2]
  clear h2;go_wp2_with fail
  go_ret2
  exact⟨.inr ⟨by rw[X.out];decide,by rw[X.out];rfl⟩,B1.out.trans ((Qa _ _).mono B1.out.size)⟩
end
end

section
open Go.Maps
attribute [local go_sem ↓] Go.wp_at_zero Go.wp_at_succ
section
variable{w:World}
theorem Gz(a:Addr)(w:World):(method 461 160 (.pointer (some a)) "Setup").run prog w = .ok (305,.pointer (some a)) w:=by kernel_rfl
end
end

section
def Q8s:List Nat := [0x00000000,0x105ec76f,0x20bd8ede,0x30e349b1,0x417b1dbc,0x5125dad3,0x61c69362,0x7198540d,0x82f63b78,0x92a8fc17,0xa24bb5a6,0xb21572c9,0xc38d26c4,0xd3d3e1ab,0xe330a81a,0xf36e6f75]
def Qhs(i:Nat):Nat:=Q8s.getD i 0
theorem Qfz(i:Nat):Qhs i<4294967296:=by
 unfold Qhs Q8s
 by_cases h:i<16
 ·have:i=0\/i=1\/i=2\/i=3\/i=4\/i=5\/i=6\/i=7\/i=8\/i=9\/i=10\/i=11\/i=12\/i=13\/i=14\/i=15:=by omega
  rcases this with rfl | rfl | rfl | rfl | rfl | rfl | rfl | rfl | rfl | rfl | rfl | rfl | rfl | rfl | rfl | rfl <;> decide
 ·rw[List.getD,List.getElem?_eq_none (by simp;omega)];decide
def Ki(r:Nat):Nat:=(r/16) ^^^ Qhs (r%16)
def Gp(r b:Nat):Nat:=Ki (Ki (r ^^^ b))
theorem Qqv{a b:Nat}(h1:a<4294967296)(h2:b<4294967296):a ^^^ b<4294967296:=Nat.xor_lt_two_pow (n:=32) h1 h2
theorem Nc(r:Nat)(h:r<4294967296):Ki r<4294967296:=Qqv (by omega) (Qfz _)
theorem Qiv(r b:Nat)(h:r<4294967296)(hb:b<4294967296):Gp r b<4294967296:=Nc _ (Nc _ (Qqv h hb))
def Jw(r x:Nat):Nat->Nat
 | 0=>r
 | k+1=>Gp (Jw r x k) (x/256 ^ k%256)
theorem Ed(r x k:Nat)(h:r<4294967296):Jw r x k<4294967296:=by
 induction k with
 | zero=>exact h
 | succ k ih=>exact Qiv _ _ ih (by omega)
def Ux(l:List Nat):Nat:=l.foldl (fun r x=>Jw r x 8) 4294967295
theorem Qe1(l:List Nat)(x:Nat):Ux (l ++ [x])=Jw (Ux l) x 8:=by simp[Ux,List.foldl_append]
theorem Qmd(l:List Nat):Ux l<4294967296:=by
 suffices h:∀ (l:List Nat) (r:Nat),r<4294967296->l.foldl (fun r x=>Jw r x 8) r<4294967296 from h l _ (by decide)
 intro l
 induction l with
 | nil=>intro r h;exact h
 | cons x l ih=>intro r h;exact ih _ (Ed _ _ _ h)
def Nd(l:List Nat):Nat:=4294967295-Ux l
theorem Gn(l:List Nat):Nd l<4294967296:=by unfold Nd;omega
end
section
end

section
structure Sup where
 ver:Int
 lin:Int
 redo:Int
 und:Int
 desc:Int
 que:Int
 tab:Int
 gen:Int
namespace Sup
def cells(s:Sup):Array Value:=#[.int .i64 s.ver,.int .i64 s.lin,.int .i64 s.redo,.int .i64 s.und,.int .i64 s.desc,.int .i64 s.que,.int .i64 s.tab,.int .u64 s.gen]
def rest(s:Sup):Int:=s.lin-2-8-s.redo-s.und-s.desc-1-s.que-s.tab
structure Ok(s:Sup):Prop where
 v1:1<=s.ver
 v2:s.ver<=65535
 l1:1<=s.lin
 l2:s.lin<=4096
 r1:1<=s.redo
 u1:1<=s.und
 d1:1<=s.desc
 q1:0<=s.que
 t1:0<=s.tab
 r2:s.redo<=s.lin
 u2:s.und<=s.lin
 d2:s.desc<=s.lin
 q2:s.que<=s.lin
 t2:s.tab<=s.lin
 h:32<=s.rest
instance (s:Sup):Decidable s.Ok:=
 if h:1<=s.ver/\s.ver<=65535/\1<=s.lin/\s.lin<=4096/\1<=s.redo/\1<=s.und/\1<=s.desc/\0<=s.que/\0<=s.tab/\s.redo<=s.lin/\s.und<=s.lin/\s.desc<=s.lin/\s.que<=s.lin/\s.tab<=s.lin/\32<=s.rest then
  .isTrue ⟨h.1,h.2.1,h.2.2.1,h.2.2.2.1,h.2.2.2.2.1,h.2.2.2.2.2.1,h.2.2.2.2.2.2.1,h.2.2.2.2.2.2.2.1,h.2.2.2.2.2.2.2.2.1,h.2.2.2.2.2.2.2.2.2.1,h.2.2.2.2.2.2.2.2.2.2.1,h.2.2.2.2.2.2.2.2.2.2.2.1,h.2.2.2.2.2.2.2.2.2.2.2.2.1,h.2.2.2.2.2.2.2.2.2.2.2.2.2.1,h.2.2.2.2.2.2.2.2.2.2.2.2.2.2⟩
 else .isFalse fun k=>h ⟨k.v1,k.v2,k.l1,k.l2,k.r1,k.u1,k.d1,k.q1,k.t1,k.r2,k.u2,k.d2,k.q2,k.t2,k.h⟩
def okB(s:Sup):Bool:=decide s.Ok
def heap(s:Sup):Int:=if s.rest<32 then 0 else s.rest-s.rest%32
def w2(s:Sup):Nat:=(s.ver+s.lin*65536+s.redo*4294967296+s.und*281474976710656).toNat
def w3(s:Sup):Nat:=(s.desc+s.que*65536+s.tab*4294967296).toNat
def first(s:Sup):List Nat := [7738151121853964849,s.gen.toNat,s.w2,s.w3,0,0,0]
def words(s:Sup):List Nat:=s.first ++ [4294967296+Nd s.first]
end Sup
end
end Go.Proofs.YtlhchkajjpefmaaGreatDoor
