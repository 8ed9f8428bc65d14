/- Lemmas and walks, part 20: each theorem says what it proves; no condition beside its own. -/
import Derived.Test.YtlhchkajjpefmaaGreatDoorK19
set_option maxHeartbeats 16000000
set_option maxRecDepth 100000
namespace Go.Proofs.YtlhchkajjpefmaaGreatDoor
open Lib(hid)
open Go.RowKit Go.Proofs.Tryz
section
open Go.Maps
def Qq6(N:DataW Unit)(l:List (Nat×Int))(k:Nat):Prop:=∀ x:Nat,N.atKey (.int .u64 (x:Int)) (.lit (.int .i64 0)) = .lit (.int .i64 (Qfb l k x))
theorem Qq6.nil(l:List (Nat×Int)):Qq6 (.map []) l 0:=fun x=>by simp[DataW.atKey,Qfb]
theorem Qq6.put{N:DataW Unit}{l:List (Nat×Int)}{k:Nat}{e:Nat×Int}(h:Qq6 N l k)(hN:IsMap N)(he:l[k]? = some e):Qq6 (N.put (.int .u64 (e.1:Int)) (.lit (.int .i64 (k:Int)))) l (k+1):=fun x=>by
 have hd:l.getD k (0,0)=e:=by simp[List.getD,he]
 show _=DataW.lit (.int .i64 (if(l.getD k (0,0)).1=x then(k:Int)else Qfb l k x))
 rw[hd]
 by_cases h1:e.1=x
 ·subst h1
  rw[atKey_put_same hN (show WideAt.IsKeyLit (.int .u64 (e.1:Int))from trivial),if_pos rfl]
 ·rw[atKey_put_other (by intro h;injection h with _ h;exact h1 (by omega)),h x,if_neg h1]
theorem Qu5:Keyed prog 31:=int_keyed underlying31
theorem Q8a(w:World):(zeroValue 3).run prog w = .ok (.int .i64 0) w:=by kernel_rfl
section
variable{w:World}
theorem Qta{b m:Nat}{N:DataW Unit}{l:List (Nat×Int)}{k:Nat}(h:w.ownsMap prog 31 (plainElem prog 3) b m N)(hK:Qq6 N l k)(o:Nat)(ho:o<18446744073709551616) :
  (Instr.lookup 286 (.map (some b)) (.int .u64 (o:Int)) false).run prog w = .ok (.int .i64 (Qfb l k o)) w:=by
 obtain⟨c,hrun,hat,_⟩:=h.lookup_int Qu5 underlying286 underlying3 (Q8a w) (show keyOf prog 31 (.int .u64 (o:Int))=some (.int .u64 (o:Int))from keyOf_int_mk underlying31 (WalkArith.wf_u64 (by omega)));rw[hK o]at hat;simp only[DataW.lit.injEq,Lit.int.injEq,true_and]at hat;rw[hrun,hat]
structure Qig(w wr:World)(fv:Value)(F:List (Nat×Int))(mb:Nat)(l:List (Nat×Int))(k:Nat):Prop where
 f:Acc w w.heap.size wr 140 2 fv F.length (Qv F)
 m:∃ (N:DataW Unit) (m:Nat),m<=k/\wr.ownsMap prog 31 (plainElem prog 3) mb m N/\Qq6 N l k
 new:w.heap.size<=mb
 nf:fv.ownBlock≠some mb
variable{wr wz w1:World}{fv:Value}{F l:List (Nat×Int)}{mb k:Nat}
theorem Qig.keep(h:Qig w wr fv F mb l k)(hz:Below wr.heap.size wr wz):Qig w wz fv F mb l k:=by
 obtain⟨N,m,h1,h2,h3⟩:=h.m;exact⟨h.f.keep hz,⟨N,m,h1,h2.kept (row:=none) ⟨hz.os,hz.tape,hz.output,hz.size,fun k hk _=>hz.block k hk⟩ (by simp),h3⟩,h.new,h.nf⟩
theorem Acc.beside{B:Nat}{e:TypeId}{s n:Nat}{v:Value}{xs:List Value}(h:Acc w B wr e s v n xs)(hg:wr.grownBy w1 (some mb))(hB:B<=mb)(hv:v.ownBlock≠some mb):Acc w B w1 e s v n xs:=
 ⟨h.own.kept (fun k hk=>hg.block k (h.own.lt k hk) (fun e=>hv (by rw[hk];exact e))),h.new,⟨hg.os.trans h.bel.os,hg.tape.trans h.bel.tape,hg.output.trans h.bel.output,Nat.le_trans h.bel.size hg.size,
  fun k hk=>(hg.block k (Nat.lt_of_lt_of_le hk h.lt) (fun e=>by have:=Option.some.inj e;omega)).trans (h.bel.block k hk)⟩,Nat.le_trans h.lt hg.size⟩
theorem Qig.put(h:Qig w wr fv F mb l k)(hz:wr.grownBy w1 (some mb)){N:DataW Unit}{m:Nat}{e:Nat×Int}(hm:m<=k)(hN:IsMap N)(hS:Qq6 N l k)(he:l[k]? = some e)(h1:w1.ownsMap prog 31 (plainElem prog 3) mb (m+1) (N.put (.int .u64 (e.1:Int)) (.lit (.int .i64 (k:Int))))) :
  Qig w w1 fv F mb l (k+1):=
 ⟨h.f.beside hz h.new h.nf,⟨_,m+1,by omega,h1,hS.put hN he⟩,h.new,h.nf⟩
theorem Qig.app{F':List (Nat×Int)}{fv':Value}{q n:Nat}(h:Qig w wr fv F mb l k)(hz:Below wr.heap.size wr wz)(o1:Qj w1 140 2 fv' (F.length+n) (Qv F++Qv F'))(hk:F'.length=n)(g1:wz.grownBy w1 fv.ownBlock)
  (b1:Zc fv'=Zc fv\/Zc fv'=some ⟨q,0,none⟩) (hq:wr.heap.size<=q):Qig w w1 fv' (F++F') mb l k:=by
 have A1:=h.f.next hz o1 g1 b1 hq;obtain⟨N,m,h1,h2,h3⟩:=h.m;have hlt:=h2.lt;have kz:wz.ownsMap prog 31 (plainElem prog 3) mb m N:=h2.kept (row:=none) ⟨hz.os,hz.tape,hz.output,hz.size,fun k hk _=>hz.block k hk⟩ (by simp);refine⟨A1.congr (by simp[hk]) (by rw[Za]),⟨N,m,h1,kz.kept g1 (fun e=>h.nf e.symm),h3⟩,h.new,fun e => ?_⟩
 rcases b1 with b1 | b1
 ·rw[Qh,b1,<- Qh]at e;exact h.nf e
 ·rw[Qh,b1]at e
  have:q=mb:=by simpa using e
  omega
theorem Qkh(sv:Value)(l:List (Nat×Int))(hs:Ql w 2 sv l.length (Qv l))(hl:l.length<=10000)(hb:∀ e∈l,e.1<18446744073709551616) :
  Calls prog 154 #[sv] w fun r w'=>∃ ov,r = .returned ov/\Acc w w.heap.size w' 140 2 ov (Js l).length (Qv (Js l)):=by
 have hmm:=@run_makeMap prog;have HS:=hid hs;have HB:=hid hb;clear hb
 obtain⟨_,sa,sc,rfl,hsc,_⟩:=hs;have HF:Hid (∀ (i:Nat) (e:Nat×Int),l[i]? = some e->(Qfb l l.length e.1=i↔(l.drop (i+1)).any (fun x=>x.1==e.1)=false)):=fun i e he=>Qsc he
 obtain⟨k0,hi0,hz0,hz1,hz2⟩:=info_parts Xe;have I2:=hid (And.intro hi0 (And.intro hz0 (And.intro hz1 hz2)));clear hi0 hz0 hz1 hz2
 generalize hm:l.length=m at *
 have HM:=hid hm;clear hm
 go_enter func154,ntmps154
 have hm0:=World.ownsMap_made (H:=Unit) w prog 31 (plainElem prog 3);have M0:Hid (Qig w (w.alloc (.map #[] 0)) (.slice none 0 0) [] w.heap.size l 0):=⟨Acc.nil w _ _ _ _ (Qa _ _) (by simp),⟨_,0,Nat.le_refl _,hm0,Qq6.nil l⟩,Nat.le_refl _,by simp[Value.ownBlock]⟩;clear hm0;go_wp2_with fail
 go_loopw [12] (fun y wr=>∃ i:Nat,i<=m/\y = .int .i64 i/\Qig w wr (.slice none 0 0) [] w.heap.size l i) (fun y _=>m-(intOf y).toNat)
 case atStart=>exact⟨0,by omega,rfl,M0.out⟩
 case round=>
  obtain⟨i,hi,rfl,hM⟩:=hrel;have M:=hid hM;clear M0
  by_cases hlt:i<m
  ·have hi':(i:Int)<m:=by omega
   obtain⟨e,he⟩:∃ e,l[i]? = some e:=⟨_,List.getElem?_eq_getElem (by rw[HM.out];exact hlt)⟩;obtain⟨_,a',c',e',_,hE⟩:=HS.out.below hM.f.bel
   cases e'
   have hg:=Xr l i e he;obtain⟨eb,eo,rfl,hE2⟩:=Zr hE hg.1;have c1:=hE2 _ _ hg.1;have c2:=hE2 _ _ hg.2
   rw[<- Nat.add_assoc]at c2;have he64:=HB.out e (List.mem_of_getElem? he);obtain⟨N,mm,hmK,hown,hset⟩:=(hM.keep (Qa wr (.cells #[.int .u64 e.1,.int .u64 e.2] 140))).m;have hmlen:mm<maxLen:=by unfold maxLen;omega
   have hkey:keyOf prog 31 (.int .u64 (e.1:Int))=some (.int .u64 (e.1:Int)):=keyOf_int_mk underlying31 (WalkArith.wf_u64 (by omega));have HX:=hid (And.intro hmK (And.intro hown hset));have HE:=hid he;have hval:plainElem (H:=Unit) prog 3 (.int .i64 (i:Int))=some (.lit (.int .i64 (i:Int)),[]):=plainElem_int underlying3 (WalkArith.wf_i64 (by omega));have HVAL:=hid hval;clear hE hE2 he hg hM hmK hset hown hval;obtain⟨e1,e2⟩:=e;simp only at c1 c2 he64 hkey HX;go_wp2_with (at_mapUpdate;refine wpList_mapUpdate_own _ rfl _ _ _ 286 rfl 31 3 Qu5 underlying286 _ w.heap.size mm _ rfl HX.out.2.1 hmlen _ _ _ rfl rfl hkey _ [] HVAL.out ?_;intro w3 o3 g3)
   have M3:Hid (Qig w w3 (.slice none 0 0) [] w.heap.size l (i+1)):=
    (M.out.keep (Qa wr _)).put g3 HX.out.1 HX.out.2.1.isMap HX.out.2.2 HE.out o3
   clear o3 g3 HX M;go_wp2_with fail
   go_roundw
   case rel=>exact⟨i+1,by omega,by go_num,M3.out⟩
   case measure=>simp[intOf];omega
  ·obtain rfl:i=m:=by omega
   clear hM;go_wp2_with fail
   go_loopw [6,24] (fun fv y wr=>∃ (q:Nat) (F:List (Nat×Int)),q<=i/\y = .int .i64 q/\F.length<=q/\F++Js (l.drop q)=Js l/\Qig w wr fv F w.heap.size l i) (fun _ y _=>i-(intOf y).toNat)
   case atStart=>exact⟨0,[],by omega,rfl,by simp,rfl,M.out⟩
   case round=>
    obtain⟨q,F,hq,rfl,hfl,hFq,hM⟩:=hrel;have HFQ:=hid hFq;clear hFq
    obtain⟨fa,fc,hfv⟩:=hM.f.slice;subst hfv;clear M;have M:=hid hM
    by_cases hlt3:q<i
    ·have hq':(q:Int)<i:=by omega
     obtain⟨e,he⟩:∃ e,l[q]? = some e:=⟨_,List.getElem?_eq_getElem (by rw[HM.out];exact hlt3)⟩;obtain⟨_,a',c',e',_,hE⟩:=HS.out.below hM.f.bel
     cases e'
     have hg:=Xr l q e he;obtain⟨eb,eo,rfl,hE2⟩:=Zr hE hg.1;have c1:=hE2 _ _ hg.1;have c2:=hE2 _ _ hg.2
     rw[<- Nat.add_assoc]at c2;have he64:=HB.out e (List.mem_of_getElem? he);have HD:=hid (Qjj he);have HFI:=hid (HF.out q e he);have MA:=hid (hM.keep (Qa wr (.cells #[.int .u64 e.1,.int .u64 e.2] 140)));obtain⟨N,mm,hmK,hown,hset⟩:=MA.out.m;have hlook:=Qta hown hset e.1 he64;clear hE hE2 he hg hM hmK hset hown;obtain⟨e1,e2⟩:=e;simp only at c1 c2 he64 hlook
     by_cases hin:(l.drop (q+1)).any (fun x=>x.1==e1)=false
     ·have hf:=HFI.out.2 hin
      rw[hf]at hlook;have HIN:=hid hin;clear hin hf
      go_wp2_with (at_builtin;refine Qc _ rfl _ _ 52 rfl 140 k0 _ 2 16 underlying52 I2.out.1 I2.out.2.1 I2.out.2.2.1 I2.out.2.2.2 rfl (by decide) _ F.length (Qv F) rfl (by exact MA.out.f.own.alloc _) _ 1 (Qv [(e1,e2)]) rfl (by exact Ql.newAt _ _ _ 2 1 _ (by simp) rfl) (Xp _) (by unfold maxLen;omega) (by omega) ?_)
      intro v1 w4 o1 g1 b1 n1;have M4:=hid (MA.out.app (Qa _ _) o1 rfl g1 b1 (by simp));clear o1 g1 b1 n1 MA M
      go_wp2_with fail
      go_roundw
      case rel=>exact⟨q+1,F ++ [(e1,e2)],by omega,by go_num,by rw[List.length_append];show F.length+1<=q+1;omega,by rw[<- HFQ.out,HD.out,if_neg (by rw[HIN.out];simp),List.append_assoc],M4.out⟩
      case measure=>simp[intOf];omega
     ·have hf:¬ Qfb l i e1=(q:Int):=fun h=>hin (HFI.out.1 h)
      have hb0:(Qfb l i e1==(q:Int))=false:=by simpa using hf
      have HIN:Hid ((l.drop (q+1)).any (fun x=>x.1==e1)=true):=by
       cases hh:(l.drop (q+1)).any (fun x=>x.1==e1)
       ·exact absurd hh hin
       ·rfl
      clear hin hf
      generalize Qfb l i e1=z at *
      go_wp2_with fail
      go_roundw
      case rel=>exact⟨q+1,F,by omega,by go_num,by omega,by rw[<- HFQ.out,HD.out,if_pos HIN.out];rfl,MA.out⟩
      case measure=>simp[intOf];omega
    ·obtain rfl:q=i:=by omega
     have hFl:F=Js l:=by have:=HFQ.out;rw[List.drop_of_length_le (by rw[HM.out];omega)]at this;simpa [Js]using this
     have HFL:=hid hFl;clear hFl hM
     go_wp2_with fail
     go_ret
     exact⟨_,rfl,by rw[<- HFL.out];exact M.out.f⟩
end
end
section
open Go.Maps
theorem Wg(w:World)(q:Nat):Below w.heap.size w (w.drewN q):=⟨rfl,rfl,rfl,Nat.le_refl _,fun _ _=>rfl⟩
theorem Qk1(n c:Nat)(hn:n<=96)(hc:c<4294967296):bits .or .u64 (n:Int) ((c:Int)*4294967296)=((n+c*4294967296:Nat):Int):=by
 rw[show(c:Int)*4294967296=((c*4294967296:Nat):Int)by omega,bits_or_u64_nat _ _ (by omega) (by omega)];have h:=Nat.two_pow_add_eq_or_of_lt (i:=32) (b:=n) (show n<2 ^ 32 by omega) c;rw[Nat.mul_comm c,Nat.or_comm,show 4294967296=2 ^ 32 from rfl,<- h]
 congr 1;omega
section
variable{w:World}{v:DV}{own:Nat->Option Qp}{D:Dev}{lb j off len:Nat}
theorem Wx(h:Ut w v own D lb j off len)(o:Nat)(ho:o<18446744073709551616) :
  Calls prog 134 #[.pointer (some ⟨lb,0,none⟩),.int .u64 o] w fun r w'=>r = .returned (.bool (Zg (64*D.n) off len o))/\Below w.heap.size w w':=by
 have c0:=h.c0;have c1:=h.c1;have c2:=h.c2
 have hb:=h.bd;have hm1:=meth_Size ⟨v.tb j,0,none⟩;have HT:=hid (fun q=>thrSize_any (h.below (Wg w q)).dev h.hj);have hres:∀ b,b=Zg (64*D.n) off len o->Ending.returned (.bool b) = .returned (.bool (Zg (64*D.n) off len o)):=fun b e=>by rw[e]
 have HR:=hid hres;clear hres
 clear h
 by_cases h8:o%8=0
 ·have b8:(((o:Int)%8)==0)=true:=by simp;omega
  have b8t:(((o:Int).tmod 8)==0)=true:=by rw[Int.tmod_eq_emod_of_nonneg (by omega)];exact b8
  by_cases hs:o<64*D.n
  ·have hs':(o:Int)<(D.n:Int)*64:=by omega
   by_cases hl:o<off
   ·have hl':(o:Int)<off:=by omega
    have HE:=hid (show true=Zg (64*D.n) off len o by unfold Zg;simp[h8,hs,hl]);clear h8 hs hl
    go_enter func134,ntmps134
    go_wp2_with fail
    go_quiet (first | (go_at_call 291;with_reducible exact Fy (HT.out _)))
    go_wp2_with fail
    go_ret
    exact⟨HR.out _ HE.out,(Qt.drewN w _).below⟩
   ·have hl':decide ((o:Int)<off)=false:=by simp;omega
    have hl3:decide (o<off)=false:=by simp;omega
    have hl2:(off:Int)<=o:=by omega
    by_cases hg:off+len<=o
    ·have hg':(len:Int)<=(o:Int)-off:=by omega
     have HE:=hid (show true=Zg (64*D.n) off len o by unfold Zg;simp[h8,hs,hg]);clear h8 hs hl hg
     go_enter func134,ntmps134
     go_wp2_with fail
     go_quiet (first | (go_at_call 291;with_reducible exact Fy (HT.out _)))
     go_wp2_with fail
     go_ret
     exact⟨HR.out _ HE.out,(Qt.drewN w _).below⟩
    ·have hg':decide ((len:Int)<=(o:Int)-off)=false:=by simp;omega
     have HE:=hid (show false=Zg (64*D.n) off len o by unfold Zg;simp;omega);clear h8 hs hl hg
     go_enter func134,ntmps134
     go_wp2_with fail
     go_quiet (first | (go_at_call 291;with_reducible exact Fy (HT.out _)))
     go_wp2_with fail
     go_ret
     exact⟨HR.out _ HE.out,(Qt.drewN w _).below⟩
  ·have hs':decide ((o:Int)<(D.n:Int)*64)=false:=by simp;omega
   have HE:=hid (show false=Zg (64*D.n) off len o by unfold Zg;simp[hs]);clear h8 hs
   go_enter func134,ntmps134
   go_wp2_with fail
   go_quiet (first | (go_at_call 291;with_reducible exact Fy (HT.out _)))
   go_wp2_with fail
   go_ret
   exact⟨HR.out _ HE.out,(Qt.drewN w _).below⟩
 ·have b8:(((o:Int)%8)==0)=false:=by simp;omega
  have HE:=hid (show false=Zg (64*D.n) off len o by unfold Zg;simp[h8]);clear h8
  go_enter func134,ntmps134
  go_wp2_with fail
  go_quiet (first | (go_at_call 291;with_reducible exact Fy (HT.out _)))
  go_wp2_with fail
  go_ret
  exact⟨HR.out _ HE.out,(Qt.drewN w _).below⟩
theorem Pg(h:Ut w v own D lb j off len)(sv:Value)(W:List (Nat×Int))(hs:Ql w 2 sv W.length (Qv W))(hV:VIn W) :
  Calls prog 156 #[.pointer (some ⟨lb,0,none⟩),sv] w fun r w'=>∃ ov,r = .returned ov/\Acc w w.heap.size w' 73 3 ov (Jn off W).length (Qd (Jn off W)):=by
 have H:=hid h;have HMK:=hid (fun wx (hx:Ut wx v own D lb j off len)=>Ny hx 0 (by omega));have HST:=hid (fun wx sv hx=>Xd (w:=wx) sv W hx hV.1 hV.2);have HRP:Hid (Jn off W=Qe W++Qe [(off,0)]):=rfl;have h1:=Wc off 0;have hsl:=Vp W;have hvl:=hV.1;have HS1:=hid (HST.out _ _ hs);obtain⟨_,sa,sc,rfl,hsc,_⟩:=hs;clear h hV HST
 generalize Qe [(off,(0:Int))]=P2 at *
 generalize Qe W=P0 at *
 generalize Jn off W=Tryz0 at *
 generalize hm:W.length=m at *
 go_enter func156,ntmps156
 go_wp2_with fail
 (with_reducible refine HS1.out.mono ?_)
 rintro e w2 ⟨pv,rfl,a2⟩;obtain⟨pa,pc,hpv⟩:=a2.slice;subst hpv;have A2:=hid a2;have L2:=hid (H.out.below a2.bel);have HM2:=hid (HMK.out _ L2.out);clear a2
 go_wp2_with fail
 (with_reducible refine HM2.out.mono ?_)
 rintro e w3 ⟨qv,rfl,a3⟩;obtain⟨qa,qc,hqv⟩:=a3.slice;subst hqv;have HT:=hid (Xx (w:=w3) _ _ P0 P2 (A2.out.keep a3.bel).rd a3.rd (by omega));have B3:Hid (Below w.heap.size w w3):=A2.out.bel.trans (a3.bel.mono A2.out.bel.size);clear a3
 go_wp2_with fail
 (with_reducible refine HT.out.mono ?_)
 rintro e w4 ⟨ov,rfl,a4⟩;have A4:=hid (a4.deeper B3.out);clear a4
 go_wp2_with fail
 go_ret
 exact⟨_,rfl,by rw[HRP.out];exact A4.out⟩
def Qb0(w:World)(off:Nat)(C:Nat->Int)(W:List (Nat×Int))(r:Ending)(w':World):Prop:=
 (96<W.length/\Qgw w 9 r w')\/(¬ 96<W.length/\C (off/8)≠0/\Qgw w 8 r w') \/
 (¬ 96<W.length/\C (off/8)=0/\∃ ov,r = .returned (.tuple #[ov,.int .i64 0])/\Acc w w.heap.size w' 73 3 ov (Zb off W).length (Qd (Zb off W)))
theorem Rq(hN:Nib w)(h:Ut w v own D lb j off len)(hof:D.off=false)(he:D.err j=0)(hvb:D.VB)(sv:Value)(ws:List (Nat×Int))(hs:Ql w 2 sv ws.length (Qv ws))(hl:ws.length<=1000)(h64:∀ e∈ws,e.1<18446744073709551616/\0<=e.2/\e.2<18446744073709551616)
  (hgood:∀ e∈ws,Zg (64*D.n) off len e.1=true) :
  Calls prog 66 #[.pointer (some ⟨lb,0,none⟩),sv] w (Qb0 w off D.cur (Js ws)):=by
 have hbd:=h.bd;have hn2:=h.n26;have hfit:=h.fit;have h64o:=h.o64
 have c0:=h.c0;have H:=hid h;have HS:=hid hs;have H64:=hid h64;have HG:=hid hgood;have HNB:=hid hN
 have hER:=fun wx (hx:Ut wx v own D lb j off len)=>err_any hx.dev hx.hj
 rw[he]at hER;have HER:=hid hER;have hLD:=fun wx (hx:Ut wx v own D lb j off len)=>Qxp hx hof hvb off (by omega) (by omega)
 have hm1:=meth_Load ⟨v.tb j,0,none⟩;have hm2:=meth_Err ⟨v.tb j,0,none⟩;have hn1:=Qdb ⟨v.tb j,0,none⟩
 have hcb:=hvb.cur (off/8);obtain⟨c,hc⟩:∃ c,(D.cur (off/8)).toNat=c:=⟨_,rfl⟩;rw[hc]at hLD;have HLD:=hid hLD;have HCZ:Hid (D.cur (off/8)=(c:Int)):=by show D.cur (off/8)=(c:Int);omega
 have hc64:c<18446744073709551616:=by omega
 have HLA:=hid (fun(wx:World) (sv:Value) (hx:Ql wx 2 sv ws.length (Qv ws))=>Qkh sv ws hx (by omega) (fun e he=>(h64 e he).1));have HW64:Hid (∀ e∈Js ws,e.1<18446744073709551616/\0<=e.2/\e.2<18446744073709551616):=fun e he=>h64 e (Qnw ws e he)
 have hWl:=Qnv ws
 generalize Js ws=W at *
 clear h h64 hgood he hvb hER hLD hcb hc hN;obtain⟨k0,hi0,hz0,hz1,hz2⟩:=info_parts Xe;have I2:=hid (And.intro hi0 (And.intro hz0 (And.intro hz1 hz2)));clear hi0 hz0 hz1 hz2
 obtain⟨i0,hi0,hz0,hz1,hz2⟩:=info_parts Gv;have I1:=hid (And.intro hi0 (And.intro hz0 (And.intro hz1 hz2)));clear hi0 hz0 hz1 hz2
 obtain⟨_,sa,sc,rfl,hsc,_⟩:=hs
 generalize hm:ws.length=m at *
 have HM:=hid hm;clear hm
 generalize hf:W.length=f at *
 have HF:=hid hf;clear hf
 go_enter func66,ntmps66
 go_wp2_with fail
 go_loopw [29] (fun y wr=>∃ k:Nat,k<=m/\y = .int .i64 k/\Below w.heap.size w wr) (fun y _=>m-(intOf y).toNat)
 case atStart=>exact⟨0,by omega,rfl,Below.refl _ _⟩
 case round=>
  obtain⟨k,hk,rfl,hb⟩:=hrel;have B:=hid hb;clear hb
  by_cases hlt:k<m
  ·have hk':(k:Int)<m:=by omega
   obtain⟨e,he⟩:∃ e,ws[k]? = some e:=⟨_,List.getElem?_eq_getElem (by rw[HM.out];exact hlt)⟩;obtain⟨_,a',c',e',_,hE⟩:=HS.out.below B.out
   cases e'
   have hg:=Xr ws k e he;obtain⟨eb,eo,rfl,hE2⟩:=Zr hE hg.1;have c1:=hE2 _ _ hg.1;have c2:=hE2 _ _ hg.2
   rw[<- Nat.add_assoc]at c2;have BA:=hid (B.out.alloc B.out.size (.cells #[.int .u64 e.1,.int .u64 e.2] 140));have hA:=Wx (H.out.below BA.out) e.1 (H64.out e (List.mem_of_getElem? he)).1;rw[HG.out e (List.mem_of_getElem? he)]at hA;have HA:=hid hA;clear hE hE2 he hg hA;obtain⟨e1,e2⟩:=e;simp only at c1 c2 HA BA;go_wp2_with fail
   (with_reducible refine HA.out.mono ?_)
   rintro e w1 ⟨rfl,b1⟩;have B1:=hid (BA.out.trans (b1.mono BA.out.size));clear b1
   go_wp2_with fail
   go_roundw
   case rel=>exact⟨k+1,by omega,by go_num,B1.out⟩
   case measure=>simp[intOf];omega
  ·obtain rfl:k=m:=by omega
   have HLA1:=hid (HLA.out _ _ (HS.out.below B.out));clear HLA hlt c0;go_wp2_with fail
   (with_reducible refine HLA1.out.mono ?_)
   rintro e w1 ⟨ov,rfl,a1⟩;have A1:Hid (Acc w w.heap.size w1 140 2 ov f (Qv W)):=⟨a1.own,fun g hg=>Nat.le_trans B.out.size (a1.new g hg),B.out.trans (a1.bel.mono B.out.size),Nat.le_trans B.out.size a1.lt⟩;clear a1 B HLA1;obtain⟨oa,oc,hov⟩:=A1.out.slice;subst hov;have L1:=hid (H.out.below A1.out.bel);have c0:=L1.out.c0;have c1:=L1.out.c1
   by_cases h96:96<f
   ·have h96':(96:Int)<f:=by omega
    go_wp2_with fail
    go_ret2
    exact .inl ⟨by rw[HF.out];exact h96,rfl,A1.out.bel⟩
   ·have h96':¬ (96:Int)<f:=by omega
    go_wp2_with fail
    (with_reducible refine(HER.out _ L1.out).mono ?_)
    rintro e w' ⟨rfl,rfl⟩;go_wp2_with fail
    go_quiet (first | (go_at_call 290;with_reducible exact Fy (HLD.out _ (L1.out.below (Wg w1 _)))))
    have A2:=hid (A1.out.keep (Wg w1 nq));have L2:=hid (L1.out.below (Wg w1 nq));clear A1 L1 c0 c1
    generalize w1.drewN nq=wq at *
    have L1:Hid (Ut wq v own D lb j off len):=L2.out;have A1:Hid (Acc w w.heap.size wq 140 2 (.slice oa f oc) f (Qv W)):=A2.out;clear L2 A2;have c0:=L1.out.c0;have c1:=L1.out.c1
    go_wp2_with fail
    (with_reducible refine(HER.out _ L1.out).mono ?_)
    rintro e w' ⟨rfl,rfl⟩
    by_cases hcz:c=0
    ·have hb0:((c:Int) != 0)=false:=by simp;omega
     have HC0:Hid (D.cur (off/8)=0):=by show D.cur (off/8)=0;rw[HCZ.out];omega
     clear hcz
     by_cases hf0:f=0
     ·have hbf:((f:Int)==0)=true:=by simp;omega
      have hWn:W = []:=List.eq_nil_of_length_eq_zero (by rw[HF.out];exact hf0);have HWN:=hid hWn;clear hf0 hWn;go_wp2_with fail
      go_ret2
      refine .inr (.inr ⟨by rw[HF.out];exact h96,HC0.out,_,rfl,?_⟩)
      rw[HWN.out];exact Acc.nil w _ _ _ _ A1.out.bel A1.out.bel.size
     ·have hbf:((f:Int)==0)=false:=by simp;omega
      have HF0:=hid hf0;clear hf0
      have FR:=hid A1.out.rd;have BW:=hid A1.out.bel;clear A1;go_wp2_with fail
      go_loopw [12,13,78] (fun pv uv y wr=>∃ a:Nat,a<=f/\y = .int .i64 a/\Qbr wq wq.heap.size wr 140 2 pv (2*a) (Qv (Qn (off+64) (W.take a))) 31 1 uv (2*a) (Zw (Ty (W.take a)))) (fun _ _ y _=>f-(intOf y).toNat)
      case atStart=>exact⟨0,by omega,rfl,⟨Acc.nil wq _ _ _ _ (Below.refl _ _) (Nat.le_refl _),Acc.nil wq _ _ _ _ (Below.refl _ _) (Nat.le_refl _),fun g hg=>by simp[Value.ownBlock]at hg⟩⟩
      case round=>
       obtain⟨a,ha,rfl,hacc⟩:=hrel;obtain⟨pa,pc,hpv⟩:=hacc.a.slice;subst hpv;obtain⟨ua,uc,huv⟩:=hacc.b.slice;subst huv;have A:=hid hacc;clear hacc
       by_cases hlt4:a<f
       ·have ha':(a:Int)<f:=by omega
        obtain⟨e,he⟩:∃ e,W[a]? = some e:=⟨_,List.getElem?_eq_getElem (by rw[HF.out];exact hlt4)⟩;obtain⟨_,a',c',e',_,hE⟩:=FR.out.below A.out.a.bel
        cases e'
        have hg:=Xr W a e he;obtain⟨eb,eo,rfl,hE2⟩:=Zr hE hg.1;have d1:=hE2 _ _ hg.1;have d2:=hE2 _ _ hg.2
        rw[<- Nat.add_assoc]at d2;have HT:=hid (Qy W a e he);have he64:=HW64.out e (List.mem_of_getElem? he);clear hE hE2 he hg;obtain⟨e1,e2⟩:=e;simp only at d1 d2 he64;have c1:=((L1.out.below A.out.a.bel).alloc (.cells #[.int .u64 (e1:Int),.int .u64 e2] 140)).c1;obtain⟨t,ht⟩:∃ t,off+64+16*a=t:=⟨_,rfl⟩;have t1:(off:Int)+64+(a:Int)*16=(t:Int):=by omega
        have ht64:t+8<18446744073709551616:=by omega
        have HTT:Hid (Qn (off+64) (W.take (a+1))=Qn (off+64) (W.take a) ++ [(t,(e1:Int))] ++ [(t+8,e2)]):=by
         show Qn (off+64) (W.take (a+1))=_
         rw[HT.out,Qf4,List.length_take,HF.out,show min a f=a by omega,show off+64+16*a=t by omega,List.append_assoc];rfl
        have HTE:Hid (Zw (Ty (W.take (a+1)))=Zw (Ty (W.take a)) ++ [.int .u64 (e1:Int),.int .u64 e2]):=by
         show Zw (Ty (W.take (a+1)))=_
         rw[HT.out,Qcg];have:((e2.toNat:Nat):Int)=e2:=Int.toNat_of_nonneg he64.2.1;simp[Zw,this]
        have e8:(t:Int)+8=((t+8:Nat):Int):=by omega
        have E8:=hid e8;clear ht e8;have hlw:=A.out.a.lt;have hne:(Value.slice pa (2*a) pc).ownBlock≠some wr.heap.size:=fun hh=>by have:=A.out.a.own.lt _ hh;omega
        have HNE:=hid hne;clear hne
        go_wp2_with (at_builtin;refine Qc _ rfl _ _ 52 rfl 140 k0 _ 2 16 underlying52 I2.out.1 I2.out.2.1 I2.out.2.2.1 I2.out.2.2.2 rfl (by decide) _ (2*a) (Qv (Qn (off+64) (W.take a))) rfl (by exact(A.out.a.own.alloc _).alloc _) _ 1 (Qv [(t,(e1:Int))]) rfl (by exact Ql.newAt _ _ _ 2 1 _ (by simp) rfl) (Xp _) (by unfold maxLen;omega) (by omega) ?_)
        intro v1 w4 o1 g1 b1 n1;have f0:w4.cell? ⟨wr.heap.size,0,none⟩=some (.int .u64 (e1:Int)):=(Uj (Qa _ _) g1 (by simp) HNE.out 0).trans ((Blk.new wr _ _).cell rfl);have f1:w4.cell? ⟨wr.heap.size,1,none⟩=some (.int .u64 e2):=(Uj (Qa _ _) g1 (by simp) HNE.out 1).trans ((Blk.new wr _ _).cell rfl);have hl4:wr.heap.size<w4.heap.size:=World.block_lt_of_cell? w4 _ f0;have hne1:v1.ownBlock≠some wr.heap.size:=fun hh=>by
         rw[Qh]at hh
         rcases b1 with b1 | b1
         ·rw[b1,<- Qh]at hh;exact HNE.out hh
         ·rw[b1]at hh;simp at hh;omega
        have A1:=hid (A.out.left (Ze wr _ _) o1 g1 b1 (by omega));clear o1 g1 b1 n1
        obtain⟨va,vc,hv1⟩:=A1.out.a.slice;subst hv1;have hlw1:=A1.out.a.lt;go_wp2_with (at_builtin;refine Qc _ rfl _ _ 52 rfl 140 k0 _ 2 16 underlying52 I2.out.1 I2.out.2.1 I2.out.2.2.1 I2.out.2.2.2 rfl (by decide) _ (2*a+1) (Qv (Qn (off+64) (W.take a))++Qv [(t,(e1:Int))]) rfl (by exact A1.out.a.own.alloc _) _ 1 [.int .u64 ((t:Int)+8),.int .u64 e2] rfl (by exact Ql.newAt _ _ _ 2 1 _ (by simp) rfl) (by simp[Value.oneCell']) (by unfold maxLen;omega) (by omega) ?_)
        intro v2 w5 o2 g2 b2 n2;have o2':Qj w5 140 2 v2 (2*a+1+1) (Qv (Qn (off+64) (W.take a))++Qv [(t,(e1:Int))] ++ [.int .u64 ((t:Int)+8),.int .u64 e2]):=by rw[List.append_assoc];exact o2
        have z0:w5.cell? ⟨wr.heap.size,0,none⟩=some (.int .u64 (e1:Int)):=(Uj (Qa w4 _) g2 (by omega) hne1 0).trans f0;have z1:w5.cell? ⟨wr.heap.size,1,none⟩=some (.int .u64 e2):=(Uj (Qa w4 _) g2 (by omega) hne1 1).trans f1;have A2:=hid (A1.out.left (Qa w4 _) o2' g2 b2 (by omega));clear o2 o2' g2 b2 n2 f0 f1 hne1
        obtain⟨xa,xc,hv2⟩:=A2.out.a.slice;subst hv2;have hlw2:=A2.out.a.lt;go_wp2_with (at_builtin;refine Qc _ rfl _ _ 56 rfl 31 i0 _ 1 8 underlying56 I1.out.1 I1.out.2.1 I1.out.2.2.1 I1.out.2.2.2 rfl (by decide) _ (2*a) (Zw (Ty (W.take a))) rfl (by exact A2.out.b.own.alloc _) _ 2 [.int .u64 (e1:Int),.int .u64 e2] rfl (by exact Ql.newAt _ _ _ 1 2 _ (by simp) rfl) (by simp[Value.oneCell']) (by unfold maxLen;omega) (by omega) ?_)
        intro v3 w6 o3 g3 b3 n3;have A3:=hid (A2.out.swap.left (Qa w5 _) o3 g3 b3 (by omega)).swap;clear o3 g3 b3 n3 A2 A1
        go_wp2_with fail
        go_roundw
        case rel=>exact⟨a+1,by omega,by go_num,by
         have h1:=A3.out.a.congr (n':=2*(a+1)) (by omega) (show _=Qv (Qn (off+64) (W.take (a+1)))by rw[HTT.out,Za,Za,E8.out];rfl);have h2:=A3.out.b.congr (n':=2*(a+1)) (by omega) HTE.out.symm;exact⟨h1,h2,A3.out.ne⟩⟩
        case measure=>simp[intOf];omega
       ·obtain rfl:a=f:=by omega
        have hFt:W.take a=W:=List.take_of_length_le (by rw[HF.out];omega);rw[hFt]at A;have hlenW:(Qn (off+64) W).length=2*a:=by rw[Nu,HF.out]
        have hlenE:(Ty W).length=2*a:=by rw[Qg7,HF.out]
        have HST:=hid (Xd (w:=wr) (.slice pa (2*a) pc) (Qn (off+64) W) (by rw[hlenW];exact A.out.a.rd) (by rw[hlenW];omega) (fun e he=>by have:=Sw W _ e he;rw[HF.out]at this;omega));have HCR:=hid (Uy (HNB.out.below (BW.out.trans (A.out.a.bel.mono BW.out.size))) (.slice ua (2*a) uc) (Ty W) (by rw[hlenE];exact A.out.b.rd) (by rw[hlenE];omega) (Qmr HW64.out));have hcb:=Gn (Ty W);have hor:=Qk1 a (Nd (Ty W)) (by omega) hcb;have hcm:a+Nd (Ty W)*4294967296=Uu W:=by unfold Uu;rw[HF.out]
        rw[hcm]at hor;have hcm2:=Qex (W:=W) (by rw[HF.out];omega);have HP:Hid (Zb off W=(Qe (Qn (off+64) W)++Qe [(off,(Uu W:Int))])++Jn off W):=by
         show Zb off W=_
         unfold Zb;rw[if_neg (fun e=>HF0.out (by rw[<- HF.out,e];rfl))]
        have hst1:(Qe (Qn (off+64) W)).length<=4*a+1:=by have:=Vp (Qn (off+64) W);rw[hlenW]at this;omega
        have hst2:=Wc off (Uu W:Int);have hst3:=Cg off W;rw[HF.out]at hst3;have HMK:=hid (fun wx (hx:Ut wx v own D lb j off len)=>Ny hx (Uu W:Int) (by omega));have HFN:=hid (fun wx sv (hx:Ut wx v own D lb j off len) hs=>Pg hx sv W hs ⟨by rw[HF.out];omega,fun e he=>(HW64.out e he).1⟩);rw[HF.out]at HFN;clear hlenW hFt hlenE hcm
        generalize Nd (Ty W)=cr at *
        generalize Uu W=cm at *
        generalize Qe (Qn (off+64) W)=P1 at *
        generalize Qe [(off,(cm:Int))]=P2 at *
        generalize Jn off W=P3 at *
        have BA:=hid A.out.a.bel;have FR2:=hid (FR.out.below BA.out);clear A FR c0 c1;go_wp2_with fail
        (with_reducible refine HCR.out.mono ?_)
        rintro e w' ⟨rfl,rfl⟩;go_wp2_with fail
        (with_reducible refine HST.out.mono ?_)
        rintro e w4 ⟨pv1,rfl,a4⟩;obtain⟨xa,xc,hx1⟩:=a4.slice;subst hx1;have A4:=hid a4;have L4:=hid (L1.out.below (BA.out.trans (a4.bel.mono BA.out.size)));clear a4 HST;go_wp2_with fail
        (with_reducible refine(HMK.out _ L4.out).mono ?_)
        rintro e w5 ⟨pv2,rfl,a5⟩;obtain⟨ya,yc,hy1⟩:=a5.slice;subst hy1;have HT2:=hid (Xx (w:=w5) _ _ P1 P2 (A4.out.keep a5.bel).rd a5.rd (by omega));have B5:Hid (Below wr.heap.size wr w5):=A4.out.bel.trans (a5.bel.mono A4.out.bel.size);clear a5 HMK A4;go_wp2_with fail
        (with_reducible refine HT2.out.mono ?_)
        rintro e w6 ⟨pv3,rfl,a6⟩;obtain⟨za,zc,hz1⟩:=a6.slice;subst hz1;have A6:=hid a6;have B6:Hid (Below wr.heap.size wr w6):=B5.out.trans (a6.bel.mono B5.out.size);have L6:=hid (L1.out.below (BA.out.trans (B6.out.mono BA.out.size)));clear a6 HT2;go_wp2_with fail
        (with_reducible refine(HFN.out _ _ L6.out (FR2.out.below B6.out)).mono ?_)
        rintro e w7 ⟨pv4,rfl,a7⟩;obtain⟨ta,tc,ht1⟩:=a7.slice;subst ht1;have HT3:=hid (Xx (w:=w7) _ _ (P1++P2) P3 (A6.out.keep a7.bel).rd a7.rd (by rw[List.length_append];omega));rw[show(P1++P2).length=P1.length+P2.length from List.length_append]at HT3;have B7:Hid (Below w.heap.size w w7):=BW.out.trans ((BA.out.trans ((B6.out.trans (a7.bel.mono B6.out.size)).mono BA.out.size)).mono BW.out.size);clear a7 HFN A6;go_wp2_with fail
        (with_reducible refine HT3.out.mono ?_)
        rintro e w8 ⟨ov,rfl,a8⟩;have A8:=hid (a8.deeper B7.out);clear a8 HT3
        go_wp2_with fail
        go_ret2
        refine .inr (.inr ⟨by rw[HF.out];exact h96,HC0.out,_,rfl,?_⟩)
        rw[HP.out];exact A8.out
    ·have hb0:((c:Int) != 0)=true:=by simp;omega
     have HC0:Hid (D.cur (off/8)≠0):=by show D.cur (off/8)≠0;rw[HCZ.out];omega
     clear hcz;go_wp2_with fail
     go_ret2
     exact .inr (.inl ⟨by rw[HF.out];exact h96,HC0.out,rfl,A1.out.bel⟩)
end
end

section
open Go.Maps
theorem Qng(c:Nat)(hc:c<18446744073709551616):c &&& (18446744073709551615-65535)=c/65536*65536:=by
 have e1:c/65536*65536=c >>> 16 <<< 16:=by rw[Nat.shiftRight_eq_div_pow,Nat.shiftLeft_eq]
 have e2:18446744073709551615-65535=(2 ^ 48-1) <<< 16:=by decide
 rw[e1,e2];refine Nat.eq_of_testBit_eq fun i => ?_
 rw[Nat.testBit_and,Nat.testBit_shiftLeft,Nat.testBit_shiftLeft,Nat.testBit_two_pow_sub_one,Nat.testBit_shiftRight]
 by_cases h1:16<=i
 ·rw[show 16+(i-16)=i by omega]
  by_cases h2:i-16<48
  ·simp[h1,h2]
  ·have:c.testBit i=false:=Nat.testBit_lt_two_pow (Nat.lt_of_lt_of_le (show c<2 ^ 64 by omega) (Nat.pow_le_pow_right (by omega) (by omega)))
   simp[this]
 ·simp[h1]
theorem Qeo(c:Nat)(hc:c<18446744073709551616):bits .andNot .u64 (c:Int) 65535=((c/65536*65536:Nat):Int):=by
 have:=u64_andNot_nat c 65535 hc (by omega);rw[Qng c hc]at this;exact this
theorem Qii(c:Nat)(hc:c<18446744073709551616):bits .and .u64 (c:Int) 65535=((c%65536:Nat):Int):=by
 have:=u64_and_nat c 65535 hc (by omega);rw[nat_mask16]at this;exact this
theorem Qt6(c:Nat):(IntKind.u64.wrap (((c/65536*65536:Nat):Int)*4294967296) != 0)=decide (c/65536%65536≠0):=by
 rw[IntKind.wrap_u64]
 by_cases h:c/65536%65536=0
 ·have:((c/65536*65536:Nat):Int)*4294967296%18446744073709551616=0:=by omega
  rw[this];simp[h]
 ·have:((c/65536*65536:Nat):Int)*4294967296%18446744073709551616≠0:=by omega
  simp[h];omega
def Qeb(off n:Nat)(C:Nat->Int):List (Nat×Int):=(List.range n).map fun i=>((C (off/8+8+2*i)).toNat,C (off/8+9+2*i))
theorem Qph(off n:Nat)(C:Nat->Int):Qeb off (n+1) C=Qeb off n C ++ [((C (off/8+8+2*n)).toNat,C (off/8+9+2*n))]:=by simp[Qeb,List.range_succ]
theorem Qty(off n:Nat)(C:Nat->Int):(Qeb off n C).length=n:=by simp[Qeb]
theorem Qms(off n:Nat)(C:Nat->Int):Ty (Qeb off n C)=(List.range (2*n)).map fun i=>(C (off/8+8+i)).toNat:=by
 induction n with
 | zero=>rfl
 | succ n ih=>
  rw[Qph,Qcg,ih,show 2*(n+1)=2*n+1+1 by omega,List.range_succ,List.range_succ];simp[show off/8+9+2*n=off/8+8+(2*n+1)by omega]
section
variable{w:World}{v:DV}{own:Nat->Option Qp}{D:Dev}{lb j off len:Nat}
structure Qq0(w:World)(g m:Nat)(F:Nat->Int)(k:Nat)(wr:World):Prop where
 row:Row wr g m 31 (fun i => .int .u64 (if i<k then F i else 0))
 bel:Below g w wr
theorem Qq0.start(F:Nat->Int)(m:Nat):Qq0 w w.heap.size m F 0 (w.alloc (.cells (madeCells #[.int .u64 0] m) 31)):=
 ⟨(Mb w 31 .u64 m).congr (fun i _=>by simp),Qa w _⟩
theorem Qq0.next{g m k:Nat}{F:Nat->Int}{wr w1:World}(h:Qq0 w g m F k wr)(hb:Below wr.heap.size wr w1):Qq0 w g m F k w1:=⟨h.row.below hb,h.bel.trans (hb.mono (Nat.le_of_lt h.row.lt))⟩
theorem Qq0.step{g m k:Nat}{F:Nat->Int}{wr:World}{x:Int}(h:Qq0 w g m F k wr)(hx:F k=x):Qq0 w g m F (k+1) (wr.setCell ⟨g,k,none⟩ (.int .u64 x)):=by
 subst hx;refine⟨(h.row.set k (.int .u64 (F k))).congr (fun i _ => ?_),h.bel.setCell (Nat.le_refl _) _⟩
 by_cases e:i=k
 ·subst e;simp
 ·simp only[if_neg e]
  by_cases e2:i<k
  ·rw[if_pos e2,if_pos (by omega)]
  ·rw[if_neg e2,if_neg (by omega)]
theorem Hl(hN:Nib w)(h:Ut w v own D lb j off len)(hof:D.off=false)(hvb:D.VB):Calls prog 48 #[.pointer (some ⟨lb,0,none⟩)] w
  fun r w'=>∃ sv,r = .returned (.tuple #[.int .u8 ((Jj (64*D.n) off len D.cur).1:Nat),sv])/\Acc w w.heap.size w' 140 2 sv (Jj (64*D.n) off len D.cur).2.length (Qv (Jj (64*D.n) off len D.cur).2):=by
 have hbd:=h.bd;have hn2:=h.n26;have hfit:=h.fit;have h64o:=h.o64
 have c0:=h.c0;have c1:=h.c1
 have hm1:=meth_Load ⟨v.tb j,0,none⟩;have hn1:=Qdb ⟨v.tb j,0,none⟩
 have H:=hid h;have HV:=hid hvb;have HNB:=hid hN
 have HL:=hid (fun wx (hx:Ut wx v own D lb j off len)=>Qxp hx hof hvb off (by omega) (by omega));have HLL:=hid (fun wx (hx:Ut wx v own D lb j off len) o h8 hl=>Qxp hx hof hvb o h8 hl);obtain⟨k0,hi0,hz0,hz1,hz2⟩:=info_parts Xe;have I2:=hid (And.intro hi0 (And.intro hz0 (And.intro hz1 hz2)));clear hi0 hz0 hz1 hz2
 have hcb:=hvb.cur (off/8);obtain⟨c,hc⟩:∃ c,(D.cur (off/8)).toNat=c:=⟨_,rfl⟩;have hc64:c<18446744073709551616:=by omega
 have HR:Hid (Jj (64*D.n) off len D.cur=if c=0 then(1,[])else if c%65536=0\/96<c%65536\/c/65536%65536≠0 then(3,[])else
   if Nd (Ty (Qeb off (c%65536) D.cur))≠c/4294967296 then(3,[])else if(Qeb off (c%65536) D.cur).all (fun e=>Zg (64*D.n) off len e.1)then(2,Qeb off (c%65536) D.cur)else(3,[])):=by
  show Jj (64*D.n) off len D.cur=_
  unfold Jj;rw[hc];rfl
 rw[hc]at HL
 generalize Jj (64*D.n) off len D.cur=LK at *
 clear h hvb hcb hc hN
 go_enter func48,ntmps48
 go_upto_region 2 with fail
 go_cut [5]from 16 to 24 (fun x wx=>x = .int .u64 (c:Int)/\Below w.heap.size w wx)
 case first=>
  go_region_with (go_at_call 290;refine(HL.out _ ?hd).mono ?_;(case hd=>first | exact(H.out.alloc _).drew | exact H.out.drew | exact H.out.alloc _ | exact H.out);rintro e w' ⟨rfl,rfl⟩)
  all_goals go_wp2_with fail
  all_goals go_meet
  all_goals exact⟨rfl,(Below.refl _ _).drew⟩
 case rest=>
  obtain⟨rfl,hbc⟩:=hcut;rename World=>wx
  have LC:=hid (H.out.below hbc);have BC:=hid hbc;have NC:=hid (HNB.out.below hbc)
  clear hbc HL c0 c1;have c0:=LC.out.c0;have c1:=LC.out.c1
  by_cases hc0:c=0
  ·have hb0:((c:Int)==0)=true:=by simp;omega
   have HQ:Hid (LK=(1,[])):=by show LK=_;rw[HR.out,if_pos hc0]
   clear HR hc0;go_wp2_with fail
   go_ret2
   rw[HQ.out];exact⟨_,rfl,Acc.nil w _ _ _ _ BC.out BC.out.size⟩
  ·have hb0:((c:Int)==0)=false:=by simp;omega
   have hand:=Qii c hc64;have hnot:=Qeo c hc64;have hshl:=Qt6 c;rw[if_neg hc0]at HR;obtain⟨n,hn⟩:∃ n,c%65536=n:=⟨_,rfl⟩;rw[hn]at hand HR
   generalize c/65536*65536=x at *
   have hn16:n<65536:=by omega
   clear hc0 hn
   by_cases h1:n=0
   ·have hb1:((n:Int)==0)=true:=by simp;omega
    have HQ:Hid (LK=(3,[])):=by show LK=_;rw[HR.out,if_pos (.inl h1)]
    clear HR h1 hshl;go_wp2_with fail
    go_ret2
    rw[HQ.out];exact⟨_,rfl,Acc.nil w _ _ _ _ BC.out BC.out.size⟩
   ·have hb1:((n:Int)==0)=false:=by simp;omega
    by_cases h2:96<n
    ·have h2':(96:Int)<n:=by omega
     have HQ:Hid (LK=(3,[])):=by show LK=_;rw[HR.out,if_pos (.inr (.inl h2))]
     clear HR h1 hshl;go_wp2_with fail
     go_ret2
     rw[HQ.out];exact⟨_,rfl,Acc.nil w _ _ _ _ BC.out BC.out.size⟩
    ·have h2':¬ (96:Int)<n:=by omega
     by_cases h3:c/65536%65536≠0
     ·have hs:(IntKind.u64.wrap ((x:Int)*4294967296) != 0)=true:=by rw[hshl];simpa using h3
      have HQ:Hid (LK=(3,[])):=by show LK=_;rw[HR.out,if_pos (.inr (.inr h3))]
      clear HR h1 hshl h3;go_wp2_with fail
      go_ret2
      rw[HQ.out];exact⟨_,rfl,Acc.nil w _ _ _ _ BC.out BC.out.size⟩
     ·have hs:(IntKind.u64.wrap ((x:Int)*4294967296) != 0)=false:=by rw[hshl];simpa using h3
      rw[if_neg (by omega)]at HR;clear h1 hshl h3;obtain⟨m,hm⟩:∃ m,2*n=m:=⟨_,rfl⟩;have hm2:(2:Int)*(n:Int)=(m:Int):=by omega
      have HEW:=hid (Qms off n D.cur);rw[hm]at HEW;have hmm:m<=192:=by omega
      have HMN:=hid hm;have hmk:=fun(wx:World)=>Qfv wx m (by omega)
      clear hm;have M0:=hid (Qq0.start (w:=wx) (fun i=>D.cur (off/8+8+i)) m);go_wp2_with fail
      go_loopw [47] (fun y wr=>∃ k:Nat,k<=m/\y = .int .i64 k/\Qq0 wx wx.heap.size m (fun i=>D.cur (off/8+8+i)) k wr) (fun y _=>m-(intOf y).toNat)
      case atStart=>exact⟨0,by omega,rfl,M0.out⟩
      case round=>
       obtain⟨k,hk,rfl,hM⟩:=hrel;have M:=hid hM;have LK2:=hid (LC.out.below hM.bel);clear M0 c0 c1
       by_cases hlt:k<m
       ·have hlt':(k:Int)<m:=by omega
        have c1:=LK2.out.c1;have hsz:wx.heap.size<wr.heap.size:=hM.row.lt;have hcell:=hM.row.cell (i:=k) hlt;have hfro:=hM.row.frozen k;have hLk:=fun wy hy=>HLL.out wy hy (off+64+8*k) (by omega) (by omega)
        rw[show(off+64+8*k)/8=off/8+8+k by omega]at hLk;have hvk:=(HV.out.cur (off/8+8+k)).1;obtain⟨t,ht⟩:∃ t,(D.cur (off/8+8+k)).toNat=t:=⟨_,rfl⟩;rw[ht]at hLk;have HT:Hid (D.cur (off/8+8+k)=(t:Int)):=by show D.cur (off/8+8+k)=(t:Int);omega
        obtain⟨q,hq⟩:∃ q,off+64+8*k=q:=⟨_,rfl⟩;rw[hq]at hLk;have hq2:(off:Int)+64+(k:Int)*8=(q:Int):=by omega
        have hq64:q<18446744073709551616:=by omega
        have u1:IntKind.u64.wrap (k:Int)=(k:Int):=IntWalk.u64_in _ (by omega);have u2:IntKind.u64.wrap ((k:Int)*8)=(k:Int)*8:=IntWalk.u64_in _ (by omega);have u3:IntKind.u64.wrap ((off:Int)+64)=(off:Int)+64:=IntWalk.u64_in _ (by omega);have u4:IntKind.u64.wrap (q:Int)=(q:Int):=IntWalk.u64_in _ (by omega);have HLK:=hid hLk
        generalize (if k<k then D.cur (off/8+8+k)else 0)=old at *
        clear hM hLk hvk ht hq;go_wp2_with fail
        go_region_with (go_at_call 290;(first | (with_reducible refine(HLK.out _ (LK2.out.alloc _).drew).mono ?_) | (with_reducible refine(HLK.out _ LK2.out.drew).mono ?_) | (with_reducible refine(HLK.out _ (LK2.out.alloc _)).mono ?_) | (with_reducible refine(HLK.out _ LK2.out).mono ?_));rintro e w' ⟨rfl,rfl⟩)
        all_goals go_wp2_with fail
        all_goals
         go_roundw
         case rel=>exact⟨k+1,by omega,by go_num,(M.out.next ((Below.refl _ _).drew)).step HT.out⟩
         case measure=>simp[intOf];omega
       ·obtain rfl:k=m:=by omega
        have hrow:Row wr wx.heap.size k 31 (fun i => .int .u64 (D.cur (off/8+8+i))):=M.out.row.congr (fun i hi=>by rw[if_pos hi]);have HROW:=hid hrow;have hrd:=Qvn hrow (Nat.le_refl _);have hnat:Xb (Qjd (fun i=>D.cur (off/8+8+i)) k)=Zw (Ty (Qeb off n D.cur)):=by
         rw[HEW.out];unfold Xb Zw Qjd;rw[List.map_map,List.map_map];refine List.map_congr_left (fun i _ => ?_)
         have:=(HV.out.cur (off/8+8+i)).1;show Value.int .u64 (D.cur (off/8+8+i)) = .int .u64 (((D.cur (off/8+8+i)).toNat:Nat):Int)
         rw[Int.toNat_of_nonneg this]
        rw[hnat]at hrd;have HGE:Hid (∀ a,a<n->(Qeb off n D.cur)[a]? = some ((D.cur (off/8+8+2*a)).toNat,D.cur (off/8+9+2*a))):=fun a ha=>by unfold Qeb;rw[List.getElem?_map,List.getElem?_range ha];rfl
        have hlW:=Qty off n D.cur;have hlE:=Qg7 (Qeb off n D.cur);have h64:∀ x∈Ty (Qeb off n D.cur),x<18446744073709551616:=Qmr (fun e he=>by
         unfold Qeb at he;obtain⟨i,_,rfl⟩:=List.mem_map.1 he;have h1:=HV.out.cur (off/8+8+2*i);have h2:=HV.out.cur (off/8+9+2*i)
         exact⟨by simp only;omega,h2⟩)
        generalize Qeb off n D.cur=W at *
        have HCR:=hid (Uy (NC.out.below M.out.bel) (.slice (some ⟨wx.heap.size,0,none⟩) k k) (Ty W) (by rw[hlE,hlW,HMN.out];exact hrd) (by rw[hlE,hlW];omega) h64);have hcr64:=Gn (Ty W);obtain⟨qh,hqh⟩:∃ qh,c/4294967296=qh:=⟨_,rfl⟩;have hq3:(c:Int)/4294967296=(qh:Int):=by omega
        rw[hqh]at HR;have BM:Hid (Below w.heap.size w wr):=BC.out.trans (M.out.bel.mono BC.out.size);have HWL:=hid hlW;have hgs:wx.heap.size<wr.heap.size:=hrow.lt;clear hrow hrd hnat hlE hlW h64 hqh hM M HEW
        generalize Nd (Ty W)=cr at *
        by_cases hcr:cr=qh
        ·have hb4:((cr:Int) != (qh:Int))=false:=by simp;omega
         rw[if_neg (by omega)]at HR;clear hcr;go_wp2_with fail
         (with_reducible refine HCR.out.mono ?_)
         rintro e w' ⟨rfl,rfl⟩;go_wp2_with fail
         go_loopw [9,75] (fun sv y wq=>∃ a:Nat,a<=n/\y = .int .i64 a/\(∀ i e,i<a->W[i]? = some e->Zg (64*D.n) off len e.1=true)/\Acc wr wr.heap.size wq 140 2 sv a (Qv (W.take a))) (fun _ y _=>n-(intOf y).toNat)
         case atStart=>exact⟨0,by omega,rfl,fun i e hi=>by omega,Acc.nil wr _ _ _ _ (Below.refl _ _) (Nat.le_refl _)⟩
         case round=>
          obtain⟨a,ha,rfl,hgd,hacc⟩:=hrel;obtain⟨pa,pc,hpv⟩:=hacc.slice;subst hpv;have HG:=hid hgd;have A:=hid hacc;clear hgd hacc
          rename World=>wq
          by_cases hlt2:a<n
          ·have hlt2':(a:Int)<n:=by omega
           have he:=HGE.out a hlt2;have hv1:=HV.out.cur (off/8+8+2*a);have hv2:=HV.out.cur (off/8+9+2*a)
           obtain⟨p,hp⟩:∃ p,2*a=p:=⟨_,rfl⟩;have hpk:p+1<k:=by have:=HMN.out;omega
           have hrq:=HROW.out.below A.out.bel;obtain⟨e1,he1⟩:∃ e1,(D.cur (off/8+8+2*a)).toNat=e1:=⟨_,rfl⟩;have he1':D.cur (off/8+8+2*a)=(e1:Int):=by omega
           obtain⟨e2,he2⟩:∃ e2,D.cur (off/8+9+2*a)=e2:=⟨_,rfl⟩;have hcells:∀ wz:World,Row wz wx.heap.size k 31 (fun i => .int .u64 (D.cur (off/8+8+i)))->wz.cell? ⟨wx.heap.size,p,none⟩=some (.int .u64 (e1:Int))/\wz.cell? ⟨wx.heap.size,p+1,none⟩=some (.int .u64 e2):=fun wz hz=>by
            have d1:=hz.cell (i:=p) (by omega);have d2:=hz.cell (i:=p+1) hpk;rw[show off/8+8+p=off/8+8+2*a by omega,he1']at d1;rw[show off/8+8+(p+1)=off/8+9+2*a by omega,he2]at d2;exact⟨d1,d2⟩
           obtain⟨d1,d2⟩:=hcells wq hrq;obtain⟨d3,d4⟩:=hcells _ (hrq.alloc (.cells #[.int .u64 0,.int .u64 0] 140));rw[he1,he2]at he;rw[he2]at hv2;have he164:e1<18446744073709551616:=by omega
           clear hcells;have hp2:(2:Int)*(a:Int)=(p:Int):=by omega
           have hpk1:(p:Int)<(k:Int):=by omega
           have hpk2:(p:Int)+1<(k:Int):=by omega
           have u1:IntKind.i64.wrap ((2:Int)*(a:Int))=(p:Int):=by rw[hp2];exact IntWalk.i64_in _ (by omega)
           have u2:IntKind.i64.wrap ((p:Int))=(p:Int):=IntWalk.i64_in _ (by omega);have u3:IntKind.i64.wrap ((p:Int)+1)=(p:Int)+1:=IntWalk.i64_in _ (by omega);have HT:=hid (Qy W a _ he);have HE:=hid he;have LQ:=hid (LK2.out.below A.out.bel);clear he hv1 hv2 he1 he1' he2 hp hrq;go_wp2_with fail
           go_region
           have LZ:Hid (Ut (wq.alloc (.cells #[.int .u64 (e1:Int),.int .u64 e2] 140)).drew v own D lb j off len):=(LQ.out.alloc _).drew;have AZ:Hid (Acc wr wr.heap.size (wq.alloc (.cells #[.int .u64 (e1:Int),.int .u64 e2] 140)).drew 140 2 (.slice pa a pc) a (Qv (W.take a))):=A.out.keep ((Qa wq _).drew);have z0:(wq.alloc (.cells #[.int .u64 (e1:Int),.int .u64 e2] 140)).drew.cell? ⟨wq.heap.size,0,none⟩=some (.int .u64 (e1:Int)):=(Blk.new wq _ _).cell rfl;have z1:(wq.alloc (.cells #[.int .u64 (e1:Int),.int .u64 e2] 140)).drew.cell? ⟨wq.heap.size,1,none⟩=some (.int .u64 e2):=(Blk.new wq _ _).cell rfl;have zl:wq.heap.size<(wq.alloc (.cells #[.int .u64 (e1:Int),.int .u64 e2] 140)).drew.heap.size:=by simp[World.drew]
           clear d1 d2 d3 d4 u1 u2 u3 A LQ
           generalize (wq.alloc (.cells #[.int .u64 (e1:Int),.int .u64 e2] 140)).drew=wz at *
           generalize wq.heap.size=pb at *
           have HA:=hid (Wx LZ.out e1 he164)
           cases hok:Zg (64*D.n) off len e1
           ·rw[hok]at HA
            have HQ:Hid (LK=(3,[])):=by
             show LK=_
             rw[HR.out,if_neg (fun hall=>by
              have:=List.all_eq_true.1 hall _ (List.mem_of_getElem? HE.out);simp only at this;rw[hok]at this;cases this)]
            clear HR hok;go_wp2_with fail
            (with_reducible refine HA.out.mono ?_)
            rintro e w1 ⟨rfl,b1⟩;have B1:Hid (Below w.heap.size w w1):=BM.out.trans ((AZ.out.bel.trans (b1.mono AZ.out.bel.size)).mono BM.out.size);clear b1;go_wp2_with fail
            go_ret2
            rw[HQ.out];exact⟨_,rfl,Acc.nil w _ _ _ _ B1.out B1.out.size⟩
           ·rw[hok]at HA
            have HOK:=hid hok;clear hok
            go_wp2_with fail
            (with_reducible refine HA.out.mono ?_)
            rintro e w1 ⟨rfl,b1⟩;have A1:=hid (AZ.out.keep b1);have y0:=Zj b1 z0;have y1:=Zj b1 z1;clear b1 AZ LZ z0 z1 HA;go_wp2_with (at_builtin;refine Qc _ rfl _ _ 52 rfl 140 k0 _ 2 16 underlying52 I2.out.1 I2.out.2.1 I2.out.2.2.1 I2.out.2.2.2 rfl (by decide) _ a (Qv (W.take a)) rfl (by exact A1.out.own.alloc _) _ 1 (Qv [(e1,e2)]) rfl (by exact Ql.newAt _ _ _ 2 1 _ (by simp) rfl) (Xp _) (by unfold maxLen;omega) (by omega) ?_)
            intro v1 w4 o1 g1 b1 n1;have A4:=hid (A1.out.next (Qa w1 _) o1 g1 b1 (by simp));clear o1 g1 b1 n1
            go_wp2_with fail
            go_roundw
            case rel=>exact⟨a+1,by omega,by go_num,fun i x hi hx=>by
             by_cases e:i=a
             ·subst e;rw[HE.out]at hx;cases hx;exact HOK.out
             ·exact HG.out i x (by omega) hx,A4.out.congr rfl (by rw[HT.out,Za])⟩
            case measure=>simp[intOf];omega
          ·obtain rfl:a=n:=by omega
           have hall:W.all (fun e=>Zg (64*D.n) off len e.1)=true:=List.all_eq_true.2 (fun e he=>by
            obtain⟨i,hi,hx⟩:=List.getElem_of_mem he;exact HG.out i e (by rw[HWL.out]at hi;omega) (by rw[<- hx];exact List.getElem?_eq_getElem hi))
           have HQ:Hid (LK=(2,W)):=by show LK=_;rw[HR.out,if_pos hall]
           have hWt:W.take a=W:=List.take_of_length_le (by rw[HWL.out];omega);rw[hWt]at A;clear HR hall hWt;go_wp2_with fail
           go_ret2
           rw[HQ.out];exact⟨_,rfl,(A.out.deeper BM.out).congr HWL.out.symm rfl⟩
        ·have hb4:((cr:Int) != (qh:Int))=true:=by simp;omega
         have HQ:Hid (LK=(3,[])):=by show LK=_;rw[HR.out,if_pos hcr]
         clear HR hcr;go_wp2_with fail
         (with_reducible refine HCR.out.mono ?_)
         rintro e w' ⟨rfl,rfl⟩;go_wp2_with fail
         go_ret2
         rw[HQ.out];exact⟨_,rfl,Acc.nil w _ _ _ _ BM.out BM.out.size⟩
end
end
section
open Go.Maps
section
variable{w:World}{v:DV}{own:Nat->Option Qp}{D:Dev}{lb j off len:Nat}
theorem Fz(hN:Nib w)(h:IsDev w v own D)(hj:j<8)(x y:Nat)(h2:26<=y)(hr:x+y<=D.n)(hof:D.off=false)(hvb:D.VB) :
  Calls prog 16 #[.iface 40 (.pointer (some ⟨v.tb j,0,none⟩)),.int .i64 x,.int .i64 y] w fun r w'=>∃ sv,r = .returned (.tuple #[.int .u8 ((Jj (64*D.n) (64*x) (64*y) D.cur).1:Nat),sv]) /\
   Acc w w.heap.size w' 140 2 sv (Jj (64*D.n) (64*x) (64*y) D.cur).2.length (Qv (Jj (64*D.n) (64*x) (64*y) D.cur).2):=by
 have HO:=hid (Wy h hj x y h2 hr);have HV:=hid hvb;have HNB:=hid hN
 clear h hN
 go_enter func16,ntmps16
 go_wp2_with fail
 (with_reducible refine HO.out.mono ?_)
 rintro e w1 ⟨rfl,l1,b1⟩;have HS:=hid (Hl (HNB.out.below b1) l1 hof HV.out);have B1:=hid b1;clear l1 b1 HO
 go_wp2_with fail
 (with_reducible refine HS.out.mono ?_)
 rintro e w2 ⟨sv,rfl,a2⟩;obtain⟨sa,sc,hsv⟩:=a2.slice;subst hsv;have A2:=hid (a2.deeper B1.out);clear a2 HS
 go_wp2_with fail
 go_ret2
 exact⟨_,rfl,A2.out⟩
def Qej(w:World)(v:DV)(own:Nat->Option Qp)(D:Dev)(j off:Nat)(W:List (Nat×Int))(r:Ending)(w':World):Prop:=
 (96<W.length/\r = .returned (.int .i64 9)/\Below w.heap.size w w')\/(¬ 96<W.length/\D.cur (off/8)≠0/\r = .returned (.int .i64 8)/\Below w.heap.size w w') \/
 (¬ 96<W.length/\D.cur (off/8)=0/\r = .returned (.int .i64 ((D.run j (Zb off W)).err j))/\Qr v own w (D.run j (Zb off W)) w')
theorem Qf7(h:Ut w v own D lb j off len)(sv:Value)(W:List (Nat×Int))(hx:D.exec+100000<4294967296)(h64:∀ e∈W,e.1<18446744073709551616)(hP:Calls prog 66 #[.pointer (some ⟨lb,0,none⟩),sv] w (Qb0 w off D.cur W)) :
  Calls prog 97 #[.pointer (some ⟨lb,0,none⟩),sv] w (Qej w v own D j off W):=by
 have HP:=hid hP;clear hP
 have H:=hid h;have H64:=hid h64
 have hbd:=h.bd;have c0:=h.c0;clear h h64
 go_enter func97,ntmps97
 go_wp2_with fail
 (with_reducible refine HP.out.mono ?_)
 rintro e' w1 (⟨h1,rfl,b1⟩ | ⟨h1,h2,rfl,b1⟩ | ⟨h1,h2,ov,rfl,a1⟩)
 ·have B1:=hid b1;have H1:=hid h1;clear b1 h1
  go_wp2_with fail
  go_ret
  exact .inl ⟨H1.out,rfl,B1.out⟩
 ·have B1:=hid b1;have H1:=hid h1;have H2:=hid h2;clear b1 h1 h2
  go_wp2_with fail
  go_ret
  exact .inr (.inl ⟨H1.out,H2.out,rfl,B1.out⟩)
 ·have H1:=hid h1;have H2:=hid h2
  have hl:=Hi off W;have HR:=hid (Qbb H.out.dev H.out.hj a1 (Qpi (by omega) ⟨by omega,H64.out⟩) (by omega) hx);have d0:=(H.out.below a1.bel).c0;obtain⟨oa,oc,hov⟩:=a1.slice;clear a1 h1 h2 c0;subst hov;go_wp2_with fail
  (with_reducible refine HR.out.mono ?_)
  rintro e' w2 ⟨rfl,p2⟩;have P2:=hid p2;clear p2
  go_wp2_with fail
  go_ret
  exact .inr (.inr ⟨H1.out,H2.out,rfl,P2.out⟩)
def Qq9(w:World)(v:DV)(own:Nat->Option Qp)(D:Dev)(j off:Nat)(LK:Nat×List (Nat×Int))(r:Ending)(w':World):Prop:=
 (LK.1=1/\r = .returned (.tuple #[.int .i64 0,.int .i64 0])/\Below w.heap.size w w')\/(LK.1=3/\r = .returned (.tuple #[.int .i64 0,.int .i64 10])/\Below w.heap.size w w') \/
 (LK.1=2/\Qr v own w (D.run j (Jn off LK.2)) w' /\
  (((D.run j (Jn off LK.2)).err j=0/\r = .returned (.tuple #[.int .i64 LK.2.length,.int .i64 0]))\/((D.run j (Jn off LK.2)).err j≠0/\r = .returned (.tuple #[.int .i64 0,.int .i64 ((D.run j (Jn off LK.2)).err j)]))))
theorem Rp(size off len:Nat)(C:Nat->Int):(Jj size off len C).1=1\/(Jj size off len C).1=3\/((Jj size off len C).1=2/\(Jj size off len C).2.length<=96/\∀ e∈(Jj size off len C).2,Zg size off len e.1=true):=by
 unfold Jj;simp only
 split
 ·exact .inl rfl
 ·split
  ·exact .inr (.inl rfl)
  ·rename_i h
   split
   ·exact .inr (.inl rfl)
   ·split
    ·rename_i h4
     exact .inr (.inr ⟨rfl,by simp;omega,List.all_eq_true.1 h4⟩)
    ·exact .inr (.inl rfl)
theorem Ma(hN:Nib w)(h:Ut w v own D lb j off len)(hof:D.off=false)(he:D.err j=0)(hvb:D.VB)(hx:D.exec+100000<4294967296) :
  Calls prog 103 #[.pointer (some ⟨lb,0,none⟩)] w (Qq9 w v own D j off (Jj (64*D.n) off len D.cur)):=by
 have hbd:=h.bd;have c0:=h.c0;have hm1:=meth_Err ⟨v.tb j,0,none⟩;have H:=hid h;have hE:=fun wx (hx:Ut wx v own D lb j off len)=>err_any hx.dev hx.hj
 rw[he]at hE;have HE:=hid hE;have HLK:=hid (Hl hN h hof hvb);have HCS:=hid (Rp (64*D.n) off len D.cur)
 generalize hLK:Jj (64*D.n) off len D.cur=LK at *
 obtain⟨s,W⟩:=LK;have HR:=hid (fun w1 pv (hW:VIn W) (hl:W.length<=96) ha=>Qbb H.out.dev H.out.hj (w1:=w1) (pv:=pv) (P:=Jn off W) ha (Qhz (by omega) hW) (by have:=Cg off W;omega) hx);clear h hE hN hLK;simp only at HLK HCS
 go_enter func103,ntmps103
 go_wp2_with fail
 (with_reducible refine(HE.out _ H.out).mono ?_)
 rintro e w' ⟨rfl,rfl⟩;go_wp2_with fail
 (with_reducible refine HLK.out.mono ?_)
 rintro e w1 ⟨sv,rfl,a1⟩;obtain⟨sa,sc,hsv⟩:=a1.slice;subst hsv;have A1:=hid a1;have L1:=hid (H.out.below a1.bel);clear a1 c0 HLK;have c0:=L1.out.c0
 rcases HCS.out with hs | hs | ⟨hs,hl,hall⟩
 ·subst hs
  go_wp2_with fail
  (with_reducible refine(HE.out _ L1.out).mono ?_)
  rintro e w' ⟨rfl,rfl⟩;go_wp2_with fail
  go_ret2
  exact .inl ⟨rfl,rfl,A1.out.bel⟩
 ·subst hs
  go_wp2_with fail
  (with_reducible refine(HE.out _ L1.out).mono ?_)
  rintro e w' ⟨rfl,rfl⟩;go_wp2_with fail
  go_ret2
  exact .inr (.inl ⟨rfl,rfl,A1.out.bel⟩)
 ·subst hs
  have hV:VIn W:=⟨by omega,fun e he=>by
   have:=of_decide_eq_true (show decide (e.1%8=0/\e.1<64*D.n/\(e.1<off\/off+len<=e.1))=true from hall e he);have:=H.out.bd;omega⟩
  have HV:=hid hV;have HFN:=hid (fun wx (hx:Ut wx v own D lb j off len) hs=>Pg hx (.slice sa W.length sc) W hs HV.out);have HR2:=hid (fun w1 pv ha=>HR.out w1 pv HV.out hl ha);have L1D:Hid (Ut w1.drew v own D lb j off len):=L1.out.drew;have A1D:Hid (Ql w1.drew 2 (.slice sa W.length sc) W.length (Qv W)):=A1.out.rd.drew;have B1:=hid A1.out.bel;clear hall hV HR HCS
  generalize hm:W.length=m at *
  go_wp2_with fail
  (with_reducible refine(HE.out _ L1.out).mono ?_)
  rintro e w' ⟨rfl,rfl⟩
  go_upto_region 15 with fail
  go_cut [8]from 44 to 51 (fun x wx=>x = .int .i64 ((D.run j (Jn off W)).err j)/\Qr v own w (D.run j (Jn off W)) wx)
  case first=>
   go_region_with (first | (go_at_call 156;(with_reducible refine(HFN.out _ L1D.out A1D.out).mono ?_);rintro e w2 ⟨pv,rfl,a2⟩;obtain⟨pa,pc,hpv⟩:=a2.slice;subst hpv;have HR4:=hid (HR2.out w2 _ (a2.deeper (B1.out.drew)));have d2:=(L1D.out.below a2.bel).c0;clear a2) | (go_at_call 12;(with_reducible refine HR4.out.mono ?_);rintro e w5 ⟨rfl,p5⟩;have P5:=hid p5;clear p5))
   all_goals go_wp2_with fail
   all_goals go_meet
   all_goals exact⟨rfl,P5.out⟩
  case rest=>
   obtain⟨rfl,hp⟩:=hcut;have P:=hid hp;clear hp
   generalize hD:D.run j (Jn off W)=D' at *
   by_cases he:D'.err j=0
   ·have hb:(D'.err j != 0)=false:=by simpa using he
    have HE:=hid he;clear he
    go_wp2_with fail
    go_ret2
    refine .inr (.inr ⟨rfl,by rw[hD];exact P.out,.inl ⟨by rw[hD];exact HE.out,?_⟩⟩)
    rw[hm];rfl
   ·have hb:(D'.err j != 0)=true:=by simpa using he
    have HE:=hid he;clear he
    go_wp2_with fail
    go_ret2
    exact .inr (.inr ⟨rfl,by rw[hD];exact P.out,.inr ⟨by rw[hD];exact HE.out,by rw[hD];rfl⟩⟩)
end
end
end Go.Proofs.YtlhchkajjpefmaaGreatDoor
