/- Lemmas and walks, part 22: each theorem says what it proves; no condition beside its own. -/
import Derived.Test.YtlhchkajjpefmaaGreatDoorK21
set_option maxHeartbeats 16000000
set_option maxRecDepth 100000
namespace Go.Proofs.YtlhchkajjpefmaaGreatDoor
open Lib(hid)
open Go.RowKit Go.Proofs.Tryz
section
open Go.Maps
section
variable{w:World}{v:DV}{own:Nat->Option Qp}{D:Dev}{lb j off n:Nat}
theorem Kq{size off n o:Nat}(h:Qw size off n o=true):o%8=0/\o<size:=by
 unfold Qw at h;have:=of_decide_eq_true h;exact⟨this.1,this.2.1⟩
theorem uPlan_live(h:LogAt w v own D lb j off n)(hof:D.off=false)(he:D.err j=0)(hvb:D.VB)(sv:Value)(offs:List Nat)(hs:Ql w 1 sv offs.length (Zw offs))(hl:offs.length<=1000)(h64:∀ o∈offs,o<18446744073709551616)(hgood:∀ o∈offs,Qw (64*D.n) off n o=true) :
  Calls prog 68 #[.pointer (some ⟨lb,0,none⟩),sv] w (Am w off n (Qk D.cur off n) (Vv D.cur ((Qk D.cur off n).map (·.1)) offs)):=by
 have HN:=hid (Yb h);have hbd:=h.bd;have hn2:=h.n2
 have H:=hid h;have HS:=hid hs;have H64:=hid h64;have HG:=hid hgood
 have HE:=hid (fun wx (hx:LogAt wx v own D lb j off n)=>Vq hx hof he hvb);have hER:=fun wx (hx:LogAt wx v own D lb j off n)=>err_any hx.dev hx.hj
 rw[he]at hER;have HER:=hid hER;have HLD:=hid (fun wx (hx:LogAt wx v own D lb j off n) o (ho:o∈offs)=>load_ok hx.dev hx.hj o hof (Kq (hgood o ho)).1 (Kq (hgood o ho)).2);have hm1:=meth_Load ⟨v.tb j,0,none⟩;have hm2:=meth_Err ⟨v.tb j,0,none⟩
 have hmm:=@run_makeMap prog;have HSB:Hid ((Qk D.cur off n).length<=4*(n-1)):=by show(Qk D.cur off n).length<=_;unfold Qk;rw[Uf];exact Ar _ _ _
 have HSV:Hid (∀ e∈Qk D.cur off n,e.1<18446744073709551616):=fun e he=>by
  unfold Qk Vs at he;obtain⟨i,_,rfl⟩:=List.mem_map.1 he;have:=hvb.cur (off/8+8+2*i);simp only;omega
 generalize Qk D.cur off n=S at *
 obtain⟨K0,hK0⟩:∃ K0,S.map (·.1)=K0:=⟨_,rfl⟩;rw[hK0];have HK0:=hid hK0;clear hK0
 have HFL:=hid (Ek D.cur K0);obtain⟨FF,hFF⟩:∃ FF,Vv D.cur K0 offs=FF:=⟨_,rfl⟩;rw[hFF];have HFF:=hid hFF;clear hFF
 clear h h64 hgood he hvb hER;obtain⟨k0,hi0,hz0,hz1,hz2⟩:=info_parts Xe;have I2:=hid (And.intro hi0 (And.intro hz0 (And.intro hz1 hz2)));clear hi0 hz0 hz1 hz2
 obtain⟨_,sa,sc,rfl,hsc,_⟩:=hs
 generalize hm:offs.length=m at *
 have HM:=hid hm;clear hm
 generalize hsl:S.length=s at *
 have HSL:=hid hsl;clear hsl
 have hsb:s<=4*(n-1):=HSB.out
 go_enter func68,ntmps68
 go_wp2_with fail
 (with_reducible refine HN.out.mono ?_)
 rintro e w' ⟨rfl,rfl⟩;go_wp2_with fail
 go_loopw [26] (fun y wr=>∃ k:Nat,k<=m/\y = .int .i64 k/\Below w.heap.size w wr) (fun y _=>m-(intOf y).toNat)
 case atStart=>exact⟨0,by omega,rfl,Below.refl _ _⟩
 case round=>
  obtain⟨k,hk,rfl,hb⟩:=hrel;have B:=hid hb;clear hb
  by_cases hlt:k<m
  ·have hk':(k:Int)<m:=by omega
   obtain⟨o,ho⟩:∃ o,offs[k]? = some o:=⟨_,List.getElem?_eq_getElem (by rw[HM.out];exact hlt)⟩;obtain⟨_,a',c',e',_,hE⟩:=HS.out.below B.out
   cases e'
   obtain⟨eb,eo,rfl,hE2⟩:=Zr hE (Ya ho);have c1:=hE2 _ _ (Ya ho);have hA:=Yl (H.out.below B.out) o (H64.out o (List.mem_of_getElem? ho));rw[HG.out o (List.mem_of_getElem? ho)]at hA;have HA:=hid hA;clear hE hE2 ho hA;go_wp2_with fail
   (with_reducible refine HA.out.mono ?_)
   rintro e w1 ⟨rfl,b1⟩;have B1:=hid (B.out.trans (b1.mono B.out.size));clear b1
   go_wp2_with fail
   go_roundw
   case rel=>exact⟨k+1,by omega,by go_num,B1.out⟩
   case measure=>simp[intOf];omega
  ·obtain rfl:k=m:=by omega
   have HE1:=hid (HE.out _ (H.out.below B.out));clear HE hlt;go_wp2_with fail
   (with_reducible refine HE1.out.mono ?_)
   rintro e w1 ⟨ov,rfl,a1⟩;have A1:Hid (Acc w w.heap.size w1 140 2 ov s (Qv S)):=⟨a1.own,fun g hg=>Nat.le_trans B.out.size (a1.new g hg),B.out.trans (a1.bel.mono B.out.size),Nat.le_trans B.out.size a1.lt⟩;clear a1 B HE1;obtain⟨oa,oc,hov⟩:=A1.out.slice;subst hov;have hm0:=World.ownsMap_made (H:=Unit) w1 prog 31 (plainElem prog 4);have M0:Hid (Cz w (w1.alloc (.map #[] 0)) (.slice oa s oc) S (.slice none 0 0) [] w1.heap.size []):=by
    have hlt:=A1.out.lt;refine⟨?_,Acc.nil w _ _ _ _ (A1.out.bel.trans ((Qa _ _).mono A1.out.bel.size)) (by simp;omega),⟨_,0,Nat.le_refl _,hm0,Qqz.nil⟩,A1.out.bel.size,fun e => ?_,by simp[Value.ownBlock],fun g _=>by simp[Value.ownBlock]⟩
    ·rw[HSL.out];exact A1.out.keep (Qa _ _)
    ·have:=A1.out.own.lt _ e;omega
   clear A1 hm0;go_wp2_with fail
   go_loopw [46] (fun y wr=>∃ i:Nat,i<=s/\y = .int .i64 i/\Cz w wr (.slice oa s oc) S (.slice none 0 0) [] w1.heap.size ((S.take i).map (·.1))) (fun y _=>s-(intOf y).toNat)
   case atStart=>exact⟨0,by omega,rfl,M0.out⟩
   case round=>
    obtain⟨i,hi,rfl,hM⟩:=hrel;have M:=hid hM;clear M0
    by_cases hlt2:i<s
    ·have hi':(i:Int)<s:=by omega
     obtain⟨e,he⟩:∃ e,S[i]? = some e:=⟨_,List.getElem?_eq_getElem (by rw[HSL.out];exact hlt2)⟩;obtain⟨_,a',c',e',_,hE⟩:=hM.o.rd;rw[HSL.out]at e'
     cases e'
     have hg:=Xr S i e he;obtain⟨eb,eo,rfl,hE2⟩:=Zr hE hg.1;have c1:=hE2 _ _ hg.1;have c2:=hE2 _ _ hg.2
     rw[<- Nat.add_assoc]at c2;have HT:=hid (Qy S i e he);have he64:=HSV.out e (List.mem_of_getElem? he);obtain⟨N,mm,hmK,hown,hset⟩:=(hM.keep (Qa wr (.cells #[.int .u64 e.1,.int .u64 e.2] 140))).m;have hmlen:mm<maxLen:=by rw[List.length_map,List.length_take]at hmK;unfold maxLen;omega
     have hkey:keyOf prog 31 (.int .u64 (e.1:Int))=some (.int .u64 (e.1:Int)):=keyOf_int_mk underlying31 (WalkArith.wf_u64 (by omega));have HX:=hid (And.intro hmK (And.intro hown hset));clear hE hE2 he hg hM hmK hset hown;obtain⟨e1,e2⟩:=e;simp only at c1 c2 he64 hkey HX;go_wp2_with (at_mapUpdate;refine wpList_mapUpdate_own _ rfl _ _ _ 246 rfl 31 4 Bm underlying246 _ w1.heap.size mm _ rfl HX.out.2.1 hmlen _ _ _ rfl rfl hkey _ [] (plainElem_bool underlying4 true) ?_;intro w3 o3 g3)
     have M3:Hid (Cz w w3 (.slice (some ⟨eb,eo,none⟩) s oc) S (.slice none 0 0) [] w1.heap.size ((S.take i).map (·.1) ++ [e1])):=
      (M.out.keep (Qa wr _)).put g3 HX.out.1 HX.out.2.1.isMap HX.out.2.2 o3
     clear o3 g3 HX M;go_wp2_with fail
     go_roundw
     case rel=>exact⟨i+1,by omega,by go_num,by rw[HT.out,List.map_append];exact M3.out⟩
     case measure=>simp[intOf];omega
    ·obtain rfl:i=s:=by omega
     rw[List.take_of_length_le (by rw[HSL.out];omega)]at M;clear hM;rw[HK0.out]at M;have hKl:K0.length<=20000:=by rw[<- HK0.out,List.length_map,HSL.out];omega
     have hm1:Cz w wr (.slice oa i oc) S (.slice none 0 0) [] w1.heap.size (K0++([]:List (Nat×Int)).map (·.1)):=by simpa using M.out
     have M1:=hid hm1;clear M hm1;go_wp2_with fail
     go_loopw [13,56] (fun fv y wr=>∃ (q:Nat) (F:List (Nat×Int)),q<=k/\y = .int .i64 q/\Vv D.cur K0 (offs.take q)=F/\Cz w wr (.slice oa i oc) S fv F w1.heap.size (K0++F.map (·.1))) (fun _ y _=>k-(intOf y).toNat)
     case atStart=>exact⟨0,[],by omega,rfl,rfl,M1.out⟩
     case round=>
      obtain⟨q,F,hq,rfl,hFq,hM⟩:=hrel;have HFQ:=hid hFq;clear hFq
      obtain⟨fa,fc,hfv⟩:=hM.f.slice;subst hfv;have M:=hid hM;have LG:=hid (H.out.below hM.o.bel);clear M1
      by_cases hlt3:q<k
      ·have hq':(q:Int)<k:=by omega
       obtain⟨o,ho⟩:∃ o,offs[q]? = some o:=⟨_,List.getElem?_eq_getElem (by rw[HM.out];exact hlt3)⟩;obtain⟨_,a',c',e',_,hE⟩:=HS.out.below hM.o.bel
       cases e'
       obtain⟨eb,eo,rfl,hE2⟩:=Zr hE (Ya ho);have c1:=hE2 _ _ (Ya ho);have ho64:=H64.out o (List.mem_of_getElem? ho);have hFs:Vv D.cur K0 (offs.take (q+1))=Xi D.cur K0 F o:=by rw[Qy offs q o ho,Ba,HFQ.out]
       have HFS:=hid hFs;have hfl:F.length<=q:=by have:=HFL.out (offs.take q);rw[List.length_take,HFQ.out]at this;omega
       have HLO:=hid (fun wx hx=>HLD.out wx hx o (List.mem_of_getElem? ho));obtain⟨N,mm,hmK,hown,hset⟩:=hM.m;have hmlen:mm<maxLen:=by rw[List.length_append,List.length_map]at hmK;unfold maxLen;omega
       have hlook:=Qhn hown hset o ho64;have hkey:keyOf prog 31 (.int .u64 (o:Int))=some (.int .u64 (o:Int)):=keyOf_int_mk underlying31 (WalkArith.wf_u64 (by omega));have HX:=hid (And.intro hmK (And.intro hown hset));clear hE hE2 ho hM hmK hset hown hFs
       by_cases hin:o∈K0++F.map (·.1)
       ·rw[decide_eq_true hin]at hlook
        have HIN:=hid hin;clear hin
        go_wp2_with fail
        go_roundw
        case rel=>exact⟨q+1,F,by omega,by go_num,by rw[HFS.out];unfold Xi;rw[if_pos HIN.out],M.out⟩
        case measure=>simp[intOf];omega
       ·rw[decide_eq_false hin]at hlook
        have HIN:=hid hin;clear hin
        go_wp2_with (at_mapUpdate;refine wpList_mapUpdate_own _ rfl _ _ _ 246 rfl 31 4 Bm underlying246 _ w1.heap.size mm _ rfl HX.out.2.1 hmlen _ _ _ rfl rfl hkey _ [] (plainElem_bool underlying4 true) ?_;intro w3 o3 g3;have M3:Hid (Cz w w3 (.slice oa i oc) S (.slice fa F.length fc) F w1.heap.size (K0++F.map (·.1) ++ [o])):=M.out.put g3 HX.out.1 HX.out.2.1.isMap HX.out.2.2 o3;have L3:=hid (H.out.below M3.out.o.bel);have d0:=L3.out.c0;clear o3 g3)
        clear HX M LG
        (with_reducible refine(HLO.out _ L3.out).mono ?_)
        rintro e w' ⟨rfl,rfl⟩;go_wp2_with (at_builtin;refine Qc _ rfl _ _ 52 rfl 140 k0 _ 2 16 underlying52 I2.out.1 I2.out.2.1 I2.out.2.2.1 I2.out.2.2.2 rfl (by decide) _ F.length (Qv F) rfl (by exact M3.out.f.own.alloc _) _ 1 (Qv [(o,D.cur (o/8))]) rfl (by exact Ql.newAt _ _ _ 2 1 _ (by simp) rfl) (Xp _) (by unfold maxLen;omega) (by omega) ?_)
        intro v1 w4 o1 g1 b1 n1;have M4:=hid (M3.out.app (Qa _ _) o1 rfl g1 b1 (by omega));clear o1 g1 b1 n1 M3
        go_wp2_with fail
        go_roundw
        case rel=>exact⟨q+1,F ++ [(o,D.cur (o/8))],by omega,by go_num,by rw[HFS.out];unfold Xi;rw[if_neg HIN.out],by rw[List.map_append,<- List.append_assoc];exact M4.out⟩
        case measure=>simp[intOf];omega
      ·obtain rfl:q=k:=by omega
       obtain rfl:F=FF:=by rw[<- HFQ.out,<- HFF.out,List.take_of_length_le (by rw[HM.out];omega)]
       have hfl:F.length<=q:=by have:=HFL.out offs;rw[HM.out,HFF.out]at this;exact this
       clear hM HFL HLD HS HM H64 HG HFQ HFF
       generalize hf:F.length=f at *
       have HF:=hid hf;clear hf
       have HCap:=hid (Mi LG.out);have d0:=LG.out.c0;go_wp2_with fail
       (with_reducible refine(HER.out _ LG.out).mono ?_)
       rintro e w' ⟨rfl,rfl⟩
       by_cases hfull:4*(n-1)<i+f
       ·have hfull':((4*(n-1):Nat):Int)<(i:Int)+f:=by omega
        go_wp2_with fail
        (with_reducible refine HCap.out.mono ?_)
        rintro e w' ⟨rfl,rfl⟩;go_wp2_with fail
        go_ret2
        exact .inl ⟨by rw[HSL.out,HF.out];exact hfull,rfl,M.out.o.bel⟩
       ·have hfull':¬ ((4*(n-1):Nat):Int)<(i:Int)+f:=by omega
        by_cases hf0:f=0
        ·have hb0:((f:Int)==0)=true:=by simp;omega
         have hFn:F = []:=List.eq_nil_of_length_eq_zero (by rw[HF.out];exact hf0);have HFN:=hid hFn;clear hf0 hFn;go_wp2_with fail
         (with_reducible refine HCap.out.mono ?_)
         rintro e w' ⟨rfl,rfl⟩;go_wp2_with fail
         go_ret2
         refine .inr ⟨by rw[HSL.out,HF.out];exact hfull,_,rfl,?_⟩
         rw[HFN.out];exact Acc.nil w _ _ _ _ M.out.o.bel M.out.o.bel.size
        ·have hb0:((f:Int)==0)=false:=by simp;omega
         have HF0:=hid hf0;clear hf0
         go_wp2_with fail
         (with_reducible refine HCap.out.mono ?_)
         rintro e w' ⟨rfl,rfl⟩;obtain⟨wc,hwc⟩:∃ x:World,x=wr:=⟨_,rfl⟩;subst hwc;have FR:=hid M.out.f.rd;have BW:=hid M.out.o.bel;clear M HCap d0;go_wp2_with fail
         go_loopw [18,100] (fun pv y wr=>∃ a:Nat,a<=f/\y = .int .i64 a/\Acc wc wc.heap.size wr 140 2 pv (2*a) (Qv (Qs (off+64+16*i) (F.take a)))) (fun _ y _=>f-(intOf y).toNat)
         case atStart=>exact⟨0,by omega,rfl,Acc.nil wc _ _ _ _ (Below.refl _ _) (Nat.le_refl _)⟩
         case round=>
          obtain⟨a,ha,rfl,hacc⟩:=hrel;obtain⟨pa,pc,hpv⟩:=hacc.slice;subst hpv;have A:=hid hacc;clear hacc
          by_cases hlt4:a<f
          ·have ha':(a:Int)<f:=by omega
           obtain⟨e,he⟩:∃ e,F[a]? = some e:=⟨_,List.getElem?_eq_getElem (by rw[HF.out];exact hlt4)⟩;obtain⟨_,a',c',e',_,hE⟩:=FR.out.below A.out.bel;rw[HF.out]at e'
           cases e'
           have hg:=Xr F a e he;obtain⟨eb,eo,rfl,hE2⟩:=Zr hE hg.1;have c1:=hE2 _ _ hg.1;have c2:=hE2 _ _ hg.2
           rw[<- Nat.add_assoc]at c2;have HT:=hid (Qy F a e he);clear hE hE2 he hg;obtain⟨e1,e2⟩:=e;simp only at c1 c2;have hEO:=fun o=>Jp ((LG.out.below A.out.bel).alloc o) (i+a) (by omega)
           rw[show((i+a:Nat):Int)=(i:Int)+a by omega]at hEO;obtain⟨t,ht⟩:∃ t,off+64+16*(i+a)=t:=⟨_,rfl⟩;rw[ht]at hEO;have ht64:t+8<18446744073709551616:=by omega
           have HTT:Hid (Qs (off+64+16*i) (F.take (a+1))=Qs (off+64+16*i) (F.take a) ++ [(t,(e1:Int))] ++ [(t+8,e2)]):=by
            show Qs (off+64+16*i) (F.take (a+1))=_
            rw[HT.out,Pf,List.length_take,HF.out,show min a f=a by omega,show off+64+16*i+16*a=t by omega,List.append_assoc];rfl
           have HEO:=hid hEO;have e8:(t:Int)+8=((t+8:Nat):Int):=by omega
           have E8:=hid e8;clear hEO ht e8;have hlw:=A.out.lt;have hne:(Value.slice pa (2*a) pc).ownBlock≠some wr.heap.size:=fun hh=>by have:=A.out.own.lt _ hh;omega
           have HNE:=hid hne;clear hne
           go_wp2_with fail
           (with_reducible refine(HEO.out _).mono ?_)
           rintro e w' ⟨rfl,rfl⟩;go_wp2_with (at_builtin;refine Qc _ rfl _ _ 52 rfl 140 k0 _ 2 16 underlying52 I2.out.1 I2.out.2.1 I2.out.2.2.1 I2.out.2.2.2 rfl (by decide) _ (2*a) (Qv (Qs (off+64+16*i) (F.take a))) rfl (by exact(A.out.own.alloc _).alloc _) _ 1 (Qv [(t,(e1:Int))]) rfl (by exact Ql.newAt _ _ _ 2 1 _ (by simp) rfl) (Xp _) (by unfold maxLen;omega) (by omega) ?_)
           intro v1 w4 o1 g1 b1 n1;have f1:w4.cell? ⟨wr.heap.size,1,none⟩=some (.int .u64 e2):=(Uj (Qa _ _) g1 (by simp) HNE.out 1).trans ((Blk.new wr _ _).cell rfl);have A1:=hid (A.out.next (Ze wr _ _) o1 g1 b1 (by omega));clear o1 g1 b1 n1
           obtain⟨va,vc,hv1⟩:=A1.out.slice;subst hv1;go_wp2_with (at_builtin;refine Qc _ rfl _ _ 52 rfl 140 k0 _ 2 16 underlying52 I2.out.1 I2.out.2.1 I2.out.2.2.1 I2.out.2.2.2 rfl (by decide) _ (2*a+1) (Qv (Qs (off+64+16*i) (F.take a))++Qv [(t,(e1:Int))]) rfl (by exact A1.out.own.alloc _) _ 1 [.int .u64 ((t:Int)+8),.int .u64 e2] rfl (by exact Ql.newAt _ _ _ 2 1 _ (by simp) rfl) (by simp[Value.oneCell']) (by unfold maxLen;omega) (by omega) ?_)
           intro v2 w5 o2 g2 b2 n2;have o2':Qj w5 140 2 v2 (2*a+1+1) (Qv (Qs (off+64+16*i) (F.take a))++Qv [(t,(e1:Int))] ++ [.int .u64 ((t:Int)+8),.int .u64 e2]):=by rw[List.append_assoc];exact o2
           have A2:=hid (A1.out.next (Qa w4 _) o2' g2 b2 (by omega));clear o2 o2' g2 b2 n2
           go_wp2_with fail
           go_roundw
           case rel=>exact⟨a+1,by omega,by go_num,A2.out.congr (by omega) (by rw[HTT.out,Za,Za,E8.out];rfl)⟩
           case measure=>simp[intOf];omega
          ·obtain rfl:a=f:=by omega
           have hFt:F.take a=F:=List.take_of_length_le (by rw[HF.out];omega);rw[hFt]at A;have hlenW:(Qs (off+64+16*i) F).length=2*a:=by rw[Rk,HF.out]
           have HST:=hid (Xd (w:=wr) (.slice pa (2*a) pc) (Qs (off+64+16*i) F) (by rw[hlenW];exact A.out.rd) (by rw[hlenW];omega) (fun e he=>by have:=Nt F _ e he;rw[HF.out]at this;omega));have HP:Hid (Jf off S.length F=Qe (Qs (off+64+16*i) F)++Qe [(off,((i+a:Nat):Int))]):=by
            show Jf off S.length F=_
            unfold Jf;rw[if_neg (fun e=>HF0.out (by rw[<- HF.out,e];rfl)),HSL.out,HF.out]
           have hst1:(Qe (Qs (off+64+16*i) F)).length<=4*a+1:=by
            have:=Ye ((Qs (off+64+16*i) F).map (·.1));unfold Qe;rw[List.length_append,List.length_map,hlenW];rw[List.length_map,hlenW]at this;omega
           have hst2:(Qe [(off,((i+a:Nat):Int))]).length<=3:=by
            have:=Ye ([(off,((i+a:Nat):Int))].map (·.1));unfold Qe;simp only[List.map_cons,List.map_nil,List.length_append,List.length_cons,List.length_nil]at this ⊢;omega
           have HSC:=hid (fun wx (hx:LogAt wx v own D lb j off n)=>Yq hx (i+a) (by omega));rw[show((i+a:Nat):Int)=(i:Int)+a by omega]at HSC HP hst2;clear hlenW hFt
           generalize Qe (Qs (off+64+16*i) F)=P1 at *
           generalize Qe [(off,(i:Int)+a)]=P2 at *
           have BA:=hid A.out.bel;clear A FR;go_wp2_with fail
           (with_reducible refine HST.out.mono ?_)
           rintro e w4 ⟨pv1,rfl,a4⟩;obtain⟨xa,xc,hx1⟩:=a4.slice;subst hx1;have A4:=hid a4;have L4:=hid (LG.out.below (BA.out.trans (a4.bel.mono BA.out.size)));clear a4 HST;go_wp2_with fail
           (with_reducible refine(HSC.out _ L4.out).mono ?_)
           rintro e w5 ⟨pv2,rfl,a5⟩;obtain⟨ya,yc,hy1⟩:=a5.slice;subst hy1;have HT2:=hid (Xx (w:=w5) _ _ P1 P2 (A4.out.keep a5.bel).rd a5.rd (by omega));have B5:Hid (Below w.heap.size w w5):=BW.out.trans ((BA.out.trans ((A4.out.bel.trans (a5.bel.mono A4.out.bel.size)).mono BA.out.size)).mono BW.out.size);clear a5 HSC A4;go_wp2_with fail
           (with_reducible refine HT2.out.mono ?_)
           rintro e w6 ⟨ov,rfl,a6⟩;have A6:=hid (a6.deeper B5.out);clear a6 HT2
           go_wp2_with fail
           go_ret2
           exact .inr ⟨by rw[HSL.out,HF.out];exact hfull,_,rfl,by rw[HP.out];exact A6.out⟩
end
end

section
open Go.Maps
theorem Ej(offs:List Nat)(h:∀ o∈offs,o<18446744073709551616):Qz (Zs offs):=by
 intro e he;unfold Zs at he
 split at he
 ·simp at he
 ·rcases List.mem_append.1 he with h1 | h1
  ·obtain⟨l,hl,rfl⟩:=List.mem_map.1 h1
   have:=Gy offs 288230376151711744 (fun o ho=>by have:=h o ho;omega) l hl;exact⟨by simp,by simp,by simp only;omega⟩
  ·simp at h1;subst h1;exact⟨by simp,by simp,by simp⟩
theorem Us(ws:List (Nat×Int))(h:∀ e∈ws,e.1<18446744073709551616):Qz (Qe ws):=by
 intro e he;unfold Qe at he
 rcases List.mem_append.1 he with h1 | h1
 ·obtain⟨x,hx,rfl⟩:=List.mem_map.1 h1
  exact⟨by simp,by simp,h x hx⟩
 ·exact Ej _ (fun o ho=>by obtain⟨x,hx,rfl⟩:=List.mem_map.1 ho;exact h x hx) e h1
theorem Ui{a b:List (Nat×Nat×Int)}(ha:Qz a)(hb:Qz b):Qz (a++b):=fun e he=>by
 rcases List.mem_append.1 he with h | h
 ·exact ha e h
 ·exact hb e h
theorem Yk(ws:List (Nat×Int)):(Qe ws).length<=2*ws.length+1:=by
 have:=Ye (ws.map (·.1));unfold Qe;rw[List.length_append,List.length_map];rw[List.length_map]at this;omega
theorem Qtp{off s:Nat}{F:List (Nat×Int)}(h:off+64+16*s+16*F.length<18446744073709551616):Qz (Jf off s F):=by
 unfold Jf
 split
 ·intro e he;simp at he
 ·exact Ui (Us _ (fun e he=>by have:=Nt F _ e he;omega)) (Us _ (fun e he=>by simp at he;subst he;simp only;omega))
theorem Qpc(off s:Nat)(F:List (Nat×Int)):(Jf off s F).length<=4*F.length+4:=by
 unfold Jf
 split
 ·simp
 ·have h1:=Yk (Qs (off+64+16*s) F)
  have h2:=Yk [(off,((s+F.length:Nat):Int))];rw[Rk]at h1;simp only[List.length_cons,List.length_nil]at h2;rw[List.length_append];omega
section
variable{w:World}{v:DV}{own:Nat->Option Qp}{D:Dev}{lb j off n:Nat}
theorem Qr.pastU{w1 w2:World}{D':Dev}(hb:Below w.heap.size w w1)(h:Qr v own w1 D' w2):Qr v own w D' w2:=Qr.next (fun _ _=>rfl) (Upd.of_below hb) h
theorem Qge(h:LogAt w v own D lb j off n){w1:World}{pv:Value}{P:List (Nat×Nat×Int)}(ha:Acc w w.heap.size w1 73 3 pv P.length (Qd P))(hi:Qz P)(hl:P.length<=100000)(hx:D.exec+100000<4294967296) :
  Calls prog 12 #[pv,.iface 40 (.pointer (some ⟨v.tb j,0,none⟩))] w1 fun r w'=>r = .returned (.int .i64 ((D.run j P).err j))/\Qr v own w (D.run j P) w':=
 (Km (h.below ha.bel).dev h.hj pv P ha.rd (fun k hk=>by
  have:=ha.new k hk
  cases ho:own k with
  | none=>rfl
  | some r=>have:=h.dev.lt k (by rw[ho];simp);omega) hi hl (by omega)).mono fun r w' hp=>⟨hp.1,hp.2.pastU ha.bel⟩
def Qra(w:World)(v:DV)(own:Nat->Option Qp)(D:Dev)(j off n:Nat)(S F:List (Nat×Int))(r:Ending)(w':World):Prop:=
 (4*(n-1)<S.length+F.length/\r = .returned (.int .i64 4)/\Below w.heap.size w w') \/
 (¬ 4*(n-1)<S.length+F.length/\r = .returned (.int .i64 ((D.run j (Jf off S.length F)).err j))/\Qr v own w (D.run j (Jf off S.length F)) w')
theorem Qk2(h:LogAt w v own D lb j off n)(sv:Value)(S F:List (Nat×Int))(hx:D.exec+100000<4294967296)(hP:Calls prog 68 #[.pointer (some ⟨lb,0,none⟩),sv] w (Am w off n S F)) :
  Calls prog 107 #[.pointer (some ⟨lb,0,none⟩),sv] w (Qra w v own D j off n S F):=by
 have HP:=hid hP;clear hP
 have H:=hid h;have hbd:=h.bd;clear h
 go_enter func107,ntmps107
 go_wp2_with fail
 (with_reducible refine HP.out.mono ?_)
 rintro e' w1 (⟨hf,rfl,b1⟩ | ⟨hf,ov,rfl,a1⟩)
 ·have B1:=hid b1;have HF:=hid hf;clear b1 hf
  go_wp2_with fail
  go_ret
  exact .inl ⟨HF.out,rfl,B1.out⟩
 ·have hl:=Qpc off S.length F
  have HR:=hid (Qge H.out a1 (Qtp (by omega)) (by omega) hx);have d0:=(H.out.below a1.bel).c0;obtain⟨oa,oc,hov⟩:=a1.slice;have HF:=hid hf;clear a1 hf;subst hov;go_wp2_with fail
  (with_reducible refine HR.out.mono ?_)
  rintro e' w2 ⟨rfl,p2⟩;have P2:=hid p2;clear p2
  go_wp2_with fail
  go_ret
  exact .inr ⟨HF.out,rfl,P2.out⟩
def Xo(size off n:Nat)(S:List (Nat×Int)):List (Nat×Int):=S.filter fun e=>Qw size off n e.1
theorem Fl{size off n:Nat}{S:List (Nat×Int)}{e:Nat×Int}(h:Qw size off n e.1=true):Xo size off n (S ++ [e])=Xo size off n S ++ [e]:=by simp[Xo,h]
theorem Tt{size off n:Nat}{S:List (Nat×Int)}{e:Nat×Int}(h:Qw size off n e.1=false):Xo size off n (S ++ [e])=Xo size off n S:=by simp[Xo,h]
theorem Lp(size off n:Nat)(S:List (Nat×Int)):(Xo size off n S).length<=S.length:=List.length_filter_le _ _
theorem uload_any(h:LogAt w v own D lb j off n)(hof:D.off=false)(he:D.err j=0)(hvb:D.VB):Calls prog 161 #[.pointer (some ⟨lb,0,none⟩)] w
  fun r w'=>∃ sv,r = .returned (.tuple #[sv,.bool (decide ((Qk D.cur off n).length=0)),.int .i64 0])/\Acc w w.heap.size w' 140 2 sv (Xo (64*D.n) off n (Qk D.cur off n)).length (Qv (Xo (64*D.n) off n (Qk D.cur off n))):=by
 have H:=hid h;have HE:=hid (Vq h hof he hvb);have hbd:=h.bd;have HSB:Hid ((Qk D.cur off n).length<=4*(n-1)):=by show(Qk D.cur off n).length<=_;unfold Qk;rw[Uf];exact Ar _ _ _
 have HSV:Hid (∀ e∈Qk D.cur off n,e.1<18446744073709551616):=fun e he=>by
  unfold Qk Vs at he;obtain⟨i,_,rfl⟩:=List.mem_map.1 he;have:=hvb.cur (off/8+8+2*i);simp only;omega
 generalize Qk D.cur off n=S at *
 clear h hvb;obtain⟨k0,hi0,hz0,hz1,hz2⟩:=info_parts Xe;have I2:=hid (And.intro hi0 (And.intro hz0 (And.intro hz1 hz2)));clear hi0 hz0 hz1 hz2
 generalize hsl:S.length=s at *
 have HSL:=hid hsl;clear hsl
 have hsb:s<=4*(n-1):=HSB.out;have HVL:=hid (fun k=>Lp (64*D.n) off n (S.take k))
 go_enter func161,ntmps161
 go_wp2_with fail
 (with_reducible refine HE.out.mono ?_)
 rintro e w1 ⟨ov,rfl,a1⟩;obtain⟨oa,oc,hov⟩:=a1.slice;subst hov;have A1:=hid a1;clear a1 HE
 go_wp2_with fail
 go_loopw [7,20] (fun vv y wr=>∃ (i:Nat) (V:List (Nat×Int)),i<=s/\y = .int .i64 i/\Xo (64*D.n) off n (S.take i)=V/\Acc w1 w1.heap.size wr 140 2 vv V.length (Qv V)) (fun _ y _=>s-(intOf y).toNat)
 case atStart=>exact⟨0,[],by omega,rfl,rfl,Acc.nil w1 _ _ _ _ (Below.refl _ _) (Nat.le_refl _)⟩
 case round=>
  obtain⟨i,V,hi,rfl,hV,ha⟩:=hrel;obtain⟨va,vc,hvv⟩:=ha.slice;subst hvv;have A:=hid ha;have HV:=hid hV;clear ha hV
  by_cases hlt:i<s
  ·have hi':(i:Int)<s:=by omega
   obtain⟨e,he⟩:∃ e,S[i]? = some e:=⟨_,List.getElem?_eq_getElem (by rw[HSL.out];exact hlt)⟩;obtain⟨_,a',c',e',_,hE⟩:=A1.out.rd.below A.out.bel
   cases e'
   have hg:=Xr S i e he;obtain⟨eb,eo,rfl,hE2⟩:=Zr hE hg.1;have c1:=hE2 _ _ hg.1;have c2:=hE2 _ _ hg.2
   rw[<- Nat.add_assoc]at c2;have HT:=hid (Qy S i e he);have he64:=HSV.out e (List.mem_of_getElem? he);have hvl:V.length<=20000:=by have:=HVL.out i;rw[HV.out,List.length_take]at this;omega
   clear hE hE2 he hg;have LG:=hid (fun o=>(H.out.below (A1.out.bel.trans (A.out.bel.mono A1.out.bel.size))).alloc o);obtain⟨e1,e2⟩:=e;simp only at c1 c2 he64;have HA:=hid (fun o=>Yl (LG.out o) e1 he64)
   cases hok:Qw (64*D.n) off n e1
   ·rw[hok]at HA
    have HO:Hid (Xo (64*D.n) off n (S.take (i+1))=V):=by
     show Xo (64*D.n) off n (S.take (i+1))=V
     rw[HT.out,Tt hok,HV.out]
    clear hok;go_wp2_with fail
    (with_reducible refine(HA.out _).mono ?_)
    rintro e w2 ⟨rfl,b2⟩;have A2:=hid (A.out.keep ((Qa wr _).trans (b2.mono (by simp))));clear b2
    go_wp2_with fail
    go_roundw
    case rel=>exact⟨i+1,V,by omega,by go_num,HO.out,A2.out⟩
    case measure=>simp[intOf];omega
   ·rw[hok]at HA
    have HO:Hid (Xo (64*D.n) off n (S.take (i+1))=V ++ [(e1,e2)]):=by
     show Xo (64*D.n) off n (S.take (i+1))=V ++ [(e1,e2)]
     rw[HT.out,Fl (e:=(e1,e2)) hok,HV.out]
    clear hok;go_wp2_with fail
    (with_reducible refine(HA.out _).mono ?_)
    rintro e w2 ⟨rfl,b2⟩;have f0:w2.cell? ⟨wr.heap.size,0,none⟩=some (.int .u64 e1):=Zj b2 ((Blk.new wr _ 140).cell (i:=0) rfl);have f1:w2.cell? ⟨wr.heap.size,1,none⟩=some (.int .u64 e2):=Zj b2 ((Blk.new wr _ 140).cell (i:=1) rfl);have A2:=hid (A.out.keep ((Qa wr _).trans (b2.mono (by simp))));clear b2
    go_wp2_with (at_builtin;refine Qc _ rfl _ _ 52 rfl 140 k0 _ 2 16 underlying52 I2.out.1 I2.out.2.1 I2.out.2.2.1 I2.out.2.2.2 rfl (by decide) _ V.length (Qv V) rfl (by exact A2.out.own.alloc _) _ 1 (Qv [(e1,e2)]) rfl (by exact Ql.newAt _ _ _ 2 1 _ (by simp) rfl) (Xp _) (by unfold maxLen;omega) (by omega) ?_)
    intro v1 w3 o1 g1 b1 n1;have A3:=hid (A2.out.next (Qa w2 _) o1 g1 b1 (by have:=A2.out.lt;omega));clear o1 g1 b1 n1
    go_wp2_with fail
    go_roundw
    case rel=>exact⟨i+1,V ++ [(e1,e2)],by omega,by go_num,HO.out,A3.out.congr (by simp) (by rw[Za])⟩
    case measure=>simp[intOf];omega
  ·obtain rfl:i=s:=by omega
   have HF:Hid (Xo (64*D.n) off n S=V):=by
    show Xo (64*D.n) off n S=V
    rw[<- HV.out,List.take_of_length_le (by rw[HSL.out];omega)]
   by_cases hi0:i=0
   ·have hb0:((i:Int)==0)=true:=by simp;omega
    have hd0:Hid (decide (i=0)=true):=by show decide (i=0)=true;simpa using hi0
    clear hi0;go_wp2_with fail
    go_ret3
    exact⟨_,by rw[hd0.out];rfl,by rw[HF.out];exact A.out.deeper A1.out.bel⟩
   ·have hb0:((i:Int)==0)=false:=by simp;omega
    have hd0:Hid (decide (i=0)=false):=by show decide (i=0)=false;simpa using hi0
    clear hi0;go_wp2_with fail
    go_ret3
    exact⟨_,by rw[hd0.out];rfl,by rw[HF.out];exact A.out.deeper A1.out.bel⟩
end
end

section
open Go.Maps
def Zt(off:Nat)(S V:List (Nat×Int)):List (Nat×Nat×Int):=if S = []then []else Zs (V.map (·.1))++Qe [(off,0)]
def Xq(off:Nat)(V:List (Nat×Int)):List (Nat×Nat×Int):=Qe V++Qe [(off,0)]
theorem Cm(V:List (Nat×Int)):(Qd (Qe V)).drop (V.length*3)=Qd (Zs (V.map (·.1))):=by
 unfold Qe;rw[Zv];have e:V.length*3=(Qd (V.map fun e=>((1,e.1,e.2):Nat×Nat×Int))).length:=by rw[Xv,List.length_map]
 rw[e,List.drop_left]
theorem Qd0(V:List (Nat×Int))(h:V ≠ []):V.length<(Qe V).length/\(Qe V).length-V.length=(Zs (V.map (·.1))).length:=by
 have h1:Zh (V.map (·.1)) ≠ []:=Qm3 _ (by
  rw[List.length_map];exact List.length_pos_iff.2 h)
 unfold Qe;rw[List.length_append,List.length_map];have h2:0<(Zs (V.map (·.1))).length:=by unfold Zs;rw[if_neg h1];simp
 omega
theorem Uo(off:Nat)(x:Int):(Qe [(off,x)]).length<=3:=by have:=Yk [(off,x)];simpa using this
section
variable{w:World}{v:DV}{own:Nat->Option Qp}{D:Dev}{lb j off n:Nat}
def Ak(w:World)(lb:Nat)(S V:List (Nat×Int)):Prop:=Calls prog 161 #[.pointer (some ⟨lb,0,none⟩)] w
  fun r w'=>∃ sv,r = .returned (.tuple #[sv,.bool (decide (S.length=0)),.int .i64 0])/\Acc w w.heap.size w' 140 2 sv V.length (Qv V)
theorem Hy(a:Option Addr)(c:Nat):Calls prog 124 #[.slice a 0 c] w fun r w'=>r = .returned (.slice none 0 0)/\w=w':=by
 go_enter func124,ntmps124
 go_wp2_with fail
 go_ret
 exact⟨rfl,rfl⟩
def Quw(V:List (Nat×Int)):Prop:=V.length<=10000/\∀ e∈V,e.1<18446744073709551616
theorem uPlanCommit_any(h:LogAt w v own D lb j off n)(S V:List (Nat×Int))(hL:Ak w lb S V)(hV:Quw V)(hVS:V.length<=S.length) :
  Calls prog 70 #[.pointer (some ⟨lb,0,none⟩)] w fun r w'=>∃ ov,r = .returned (.tuple #[ov,.int .i64 0])/\Acc w w.heap.size w' 73 3 ov (Zt off S V).length (Qd (Zt off S V)):=by
 have HL:=hid hL;have H:=hid h;have HV:=hid hV
 have hbd:=h.bd;have hvl:=hV.1;clear h hL hV;unfold Ak at HL
 by_cases hs0:S = []
 ·have HC:Hid (Zt off S V = []):=by show Zt off S V = [];unfold Zt;rw[if_pos hs0]
  have hd:decide (S.length=0)=true:=by simp[hs0]
  rw[hd]at HL;clear hs0 hd
  go_enter func70,ntmps70
  go_wp2_with fail
  (with_reducible refine HL.out.mono ?_)
  rintro e w1 ⟨sv,rfl,a1⟩;obtain⟨sa,sc,hsv⟩:=a1.slice;subst hsv;have B1:=hid a1.bel;clear a1
  go_wp2_with fail
  go_ret2
  exact⟨_,rfl,by rw[HC.out];exact Acc.nil w _ _ _ _ B1.out B1.out.size⟩
 ·have HC:Hid (Zt off S V=Zs (V.map (·.1))++Qe [(off,0)]):=by show Zt off S V=_;unfold Zt;rw[if_neg hs0]
  have hd:decide (S.length=0)=false:=by simpa using hs0
  rw[hd]at HL;clear hs0 hd;have HSC:=hid (fun wx (hx:LogAt wx v own D lb j off n)=>Yq hx 0 (by omega));rw[show((0:Nat):Int)=0 from rfl]at HSC;have h1:=Uo off 0;have hfl:=Ye (V.map (·.1));rw[List.length_map]at hfl
  by_cases hv0:V = []
  ·have HF:Hid (Zs (V.map (·.1)) = []):=by show Zs (V.map (·.1)) = [];subst hv0;rfl
   rw[hv0]at HL;clear hv0
   generalize Qe [(off,(0:Int))]=P2 at *
   go_enter func70,ntmps70
   go_wp2_with fail
   (with_reducible refine HL.out.mono ?_)
   rintro e w1 ⟨sv,rfl,a1⟩;obtain⟨sa,sc,hsv⟩:=a1.slice;subst hsv;have A1:=hid a1;clear a1
   rw[show([]:List (Nat×Int)).length=0 from rfl]at A1;rw[show([]:List (Nat×Int)).length=0 from rfl];have LG:=hid (H.out.below A1.out.bel);go_wp2_with fail
   (with_reducible refine(Hy sa sc).mono ?_)
   rintro e w' ⟨rfl,rfl⟩;go_wp2_with fail
   (with_reducible refine(HSC.out _ LG.out).mono ?_)
   rintro e w2 ⟨pv,rfl,a2⟩;obtain⟨pa,pc,hpv⟩:=a2.slice;subst hpv;have HT:=hid (Xx (w:=w2) (.slice none 0 0) _ [] P2 (Qj.nil w2 73 3).rd a2.rd (by simp;omega));have B2:=hid (A1.out.bel.trans (a2.bel.mono A1.out.bel.size));clear a2 HSC;go_wp2_with fail
   (with_reducible refine HT.out.mono ?_)
   rintro e w3 ⟨ov,rfl,a3⟩;have A3:=hid (a3.deeper B2.out);clear a3 HT
   go_wp2_with fail
   go_ret2
   exact⟨_,rfl,by rw[HC.out,HF.out];exact A3.out⟩
  ·have HG:=hid (Qd0 V hv0)
   have HDR:=hid (Cm V);have hgt:=HG.out.1;have hge:=HG.out.2;have HST:=hid (fun wx sv hx=>Xd (w:=wx) sv V hx (by have:=HV.out.1;omega) HV.out.2);have hsl:=Yk V
   generalize Qe [(off,(0:Int))]=P2 at *
   generalize Zs (V.map (·.1))=P1 at *
   generalize Qe V=P0 at *
   generalize hm:V.length=m at *
   have HM:=hid hm;clear hm hv0
   generalize hN:P0.length=N at *
   have HN:=hid hN;clear hN
   go_enter func70,ntmps70
   go_wp2_with fail
   (with_reducible refine HL.out.mono ?_)
   rintro e w1 ⟨sv,rfl,a1⟩;obtain⟨sa,sc,hsv⟩:=a1.slice;subst hsv;have A1:=hid a1;clear a1
   have HS1:=hid (HST.out _ _ A1.out.rd);clear HST;go_wp2_with fail
   (with_reducible refine HS1.out.mono ?_)
   rintro e w2 ⟨pv,rfl,a2⟩;have A2:=hid a2;obtain⟨b,o,c,hpv,hcap,_⟩:=Qga a2.rd (by
    intro e;have:=congrArg List.length e;rw[Xv,HN.out]at this;simp at this;omega)
   clear a2 HS1;subst hpv;have hmN:(m:Int)<=N:=by omega
   have hNc:(N:Int)<=c:=by omega
   have hcm:¬ c=m:=by omega
   have hcm':¬ (c:Int)=(m:Int):=by omega
   have hmc:(m:Int)<=c:=by omega
   have R2:Hid (Ql w2 3 (.slice (some ⟨b,o+m*3,none⟩) (N-m) (c-m)) (N-m) (Qd P1)):=by
    have:=A2.out.rd.dropG m (by omega);rw[if_neg hcm,Option.map_some,Addr.add_lit,HDR.out]at this;exact this
   have B12:=hid (A1.out.bel.trans (A2.out.bel.mono A1.out.bel.size));have LG:=hid (H.out.below B12.out);go_wp2_with fail
   (with_reducible refine(HSC.out _ LG.out).mono ?_)
   rintro e w3 ⟨qv,rfl,a3⟩;obtain⟨qa,qc,hqv⟩:=a3.slice;subst hqv;have hr:=R2.out.below a3.bel;rw[hge]at hr;have HT:=hid (Xx (w:=w3) _ _ P1 P2 hr a3.rd (by omega));have B3:=hid (B12.out.trans (a3.bel.mono B12.out.size));clear a3 HSC hr;go_wp2_with fail
   (with_reducible refine HT.out.mono ?_)
   rintro e w4 ⟨ov,rfl,a4⟩;have A4:=hid (a4.deeper B3.out);clear a4 HT
   go_wp2_with fail
   go_ret2
   exact⟨_,rfl,by rw[HC.out];exact A4.out⟩
theorem Qir{S V:List (Nat×Int)}(ho:off<18446744073709551616)(hV:Quw V):Qz (Zt off S V):=by
 unfold Zt
 split
 ·intro e he;simp at he
 ·exact Ui (Ej _ (fun o ho=>by obtain⟨x,hx,rfl⟩:=List.mem_map.1 ho;exact hV.2 x hx)) (Us _ (fun e he=>by simp at he;subst he;exact ho))
theorem Qe0(S V:List (Nat×Int))(hV:Quw V):(Zt off S V).length<=100000:=by
 have h1:=Uo off 0;have hfl:=Ye (V.map (·.1));rw[List.length_map]at hfl;have:=hV.1;unfold Zt
 split
 ·simp
 ·rw[List.length_append];omega
theorem Qgb{V:List (Nat×Int)}(ho:off<18446744073709551616)(hV:Quw V):Qz (Xq off V):=Ui (Us _ hV.2) (Us _ (fun e he=>by simp at he;subst he;exact ho))
theorem Qdo(V:List (Nat×Int))(hV:Quw V):(Xq off V).length<=100000:=by
 have h1:=Uo off 0;have h2:=Yk V;have:=hV.1;unfold Xq;rw[List.length_append];omega
theorem Qgt(h:LogAt w v own D lb j off n)(S V:List (Nat×Int))(hL:Ak w lb S V)(hV:Quw V)(hVS:V.length<=S.length)(hx:D.exec+100000<4294967296) :
  Calls prog 108 #[.pointer (some ⟨lb,0,none⟩)] w fun r w'=>r = .returned (.int .i64 ((D.run j (Zt off S V)).err j))/\Qr v own w (D.run j (Zt off S V)) w':=by
 have HP:=hid (uPlanCommit_any h S V hL hV hVS);have H:=hid h;have hbd:=h.bd;clear h hL
 go_enter func108,ntmps108
 go_wp2_with fail
 (with_reducible refine HP.out.mono ?_)
 rintro e' w1 ⟨ov,rfl,a1⟩;have HR:=hid (Qge H.out a1 (Qir (S:=S) (by omega) hV) (Qe0 S V hV) hx);have d0:=(H.out.below a1.bel).c0;obtain⟨oa,oc,hov⟩:=a1.slice;clear a1;subst hov;go_wp2_with fail
 (with_reducible refine HR.out.mono ?_)
 rintro e' w2 ⟨rfl,p2⟩;have P2:=hid p2;clear p2
 go_wp2_with fail
 go_ret
 exact⟨rfl,P2.out⟩
def Qwb(w:World)(v:DV)(own:Nat->Option Qp)(D:Dev)(j off:Nat)(S V:List (Nat×Int))(r:Ending)(w':World):Prop:=
 (S = []/\r = .returned (.tuple #[.int .i64 0,.int .i64 0])/\Below w.heap.size w w') \/
 (S ≠ []/\Qr v own w (D.run j (Xq off V)) w' /\
  (((D.run j (Xq off V)).err j=0/\r = .returned (.tuple #[.int .i64 V.length,.int .i64 0]))\/((D.run j (Xq off V)).err j≠0/\r = .returned (.tuple #[.int .i64 0,.int .i64 ((D.run j (Xq off V)).err j)]))))
theorem Qd3(h:LogAt w v own D lb j off n)(S V:List (Nat×Int))(hL:Ak w lb S V)(hV:Quw V)(hx:D.exec+100000<4294967296) :
  Calls prog 112 #[.pointer (some ⟨lb,0,none⟩)] w (Qwb w v own D j off S V):=by
 have HL:=hid hL;have H:=hid h;have HV:=hid hV
 have hbd:=h.bd;have hvl:=hV.1;clear h hL hV;unfold Ak at HL
 by_cases hs0:S = []
 ·have HC:=hid hs0
  have hd:decide (S.length=0)=true:=by simp[hs0]
  rw[hd]at HL;clear hs0 hd
  go_enter func112,ntmps112
  go_wp2_with fail
  (with_reducible refine HL.out.mono ?_)
  rintro e w1 ⟨sv,rfl,a1⟩;obtain⟨sa,sc,hsv⟩:=a1.slice;subst hsv;have B1:=hid a1.bel;clear a1
  go_wp2_with fail
  go_ret2
  exact .inl ⟨HC.out,rfl,B1.out⟩
 ·have HC:Hid (S ≠ []):=hs0
  have hd:decide (S.length=0)=false:=by simpa using hs0
  rw[hd]at HL;clear hs0 hd;have HSC:=hid (fun wx (hx:LogAt wx v own D lb j off n)=>Yq hx 0 (by omega));rw[show((0:Nat):Int)=0 from rfl]at HSC;have HST:=hid (fun wx sv hx=>Xd (w:=wx) sv V hx hvl HV.out.2);have HR:=hid (fun w1 pv ha=>Qge H.out (w1:=w1) (pv:=pv) (P:=Xq off V) ha (Qgb (by omega) HV.out) (Qdo V HV.out) hx);have HRP:Hid (Xq off V=Qe V++Qe [(off,0)]):=rfl;have h1:=Uo off 0;have hsl:=Yk V
  generalize Qe [(off,(0:Int))]=P2 at *
  generalize Qe V=P0 at *
  go_enter func112,ntmps112
  go_wp2_with fail
  (with_reducible refine HL.out.mono ?_)
  rintro e w1 ⟨sv,rfl,a1⟩;obtain⟨sa,sc,hsv⟩:=a1.slice;subst hsv;have A1:=hid a1;have HS1:=hid (HST.out _ _ a1.rd.drew);have d0:=(H.out.below a1.bel).c0;have B1:=hid a1.bel;clear a1 HST
  generalize hm:V.length=m at *
  go_upto_region 4 with fail
  go_cut [7]from 20 to 29 (fun x wx=>x = .int .i64 ((D.run j (Xq off V)).err j)/\Qr v own w (D.run j (Xq off V)) wx)
  case first=>
   go_region_with (first | (go_at_call 124;(with_reducible refine HS1.out.mono ?_);rintro e w2 ⟨pv,rfl,a2⟩;obtain⟨pa,pc,hpv⟩:=a2.slice;subst hpv;have A2:=hid a2;have B2:Hid (Below w.heap.size w w2):=B1.out.trans ((Qlz a2.bel).mono B1.out.size);have L2:=hid (H.out.below B2.out);have d2:=L2.out.c0;clear a2) | (go_at_call 159;(with_reducible refine(HSC.out _ L2.out).mono ?_);rintro e w3 ⟨qv,rfl,a3⟩;obtain⟨qa,qc,hqv⟩:=a3.slice;subst hqv;have HT:=hid (Xx (w:=w3) _ _ P0 P2 (A2.out.keep a3.bel).rd a3.rd (by omega));have B3:Hid (Below w.heap.size w w3):=B2.out.trans (a3.bel.mono B2.out.size);have d3:=(H.out.below B3.out).c0;clear a3) | (go_at_call 69;(with_reducible refine HT.out.mono ?_);rintro e w4 ⟨ov,rfl,a4⟩;obtain⟨oa,oc,hov⟩:=a4.slice;rw[List.length_append]at hov;have HR4:=hid (HR.out w4 _ (by rw[HRP.out];exact a4.deeper B3.out));have d4:=(H.out.below (B3.out.trans (a4.bel.mono B3.out.size))).c0;clear a4;subst hov) | (go_at_call 12;(with_reducible refine HR4.out.mono ?_);rintro e w5 ⟨rfl,p5⟩;have P5:=hid p5;clear p5))
   all_goals go_wp2_with fail
   all_goals go_meet
   all_goals exact⟨rfl,P5.out⟩
  case rest=>
   obtain⟨rfl,hp⟩:=hcut;have P:=hid hp;clear hp
   generalize hD:D.run j (Xq off V)=D' at *
   by_cases he:D'.err j=0
   ·have hb:(D'.err j != 0)=false:=by simpa using he
    have HE:=hid he;clear he
    go_wp2_with fail
    go_ret2
    refine .inr ⟨HC.out,by rw[hD];exact P.out,.inl ⟨by rw[hD];exact HE.out,?_⟩⟩
    rw[hm];rfl
   ·have hb:(D'.err j != 0)=true:=by simpa using he
    have HE:=hid he;clear he
    go_wp2_with fail
    go_ret2
    exact .inr ⟨HC.out,by rw[hD];exact P.out,.inr ⟨by rw[hD];exact HE.out,by rw[hD];rfl⟩⟩
end
end

section
open Go.Maps
section
variable{w:World}{v:DV}{own:Nat->Option Qp}{D:Dev}{lb j off n:Nat}
def Pu(w:World)(e:Int)(r:Ending)(w':World):Prop:=r = .returned (.tuple #[.pointer none,.int .i64 e])/\Below w.heap.size w w'
theorem Q3e(a:Addr)(x y:Int)(h:x<0\/y<2):Calls prog 49 #[.iface 40 (.pointer (some a)),.int .i64 x,.int .i64 y] w (Pu w 1):=by
 by_cases hx:x<0
 ·go_enter func49,ntmps49
  go_wp2_with fail
  go_ret2
  exact⟨rfl,Below.refl _ _⟩
 ·have hy:y<2:=by omega
  clear h
  go_enter func49,ntmps49
  go_wp2_with fail
  go_ret2
  exact⟨rfl,Below.refl _ _⟩
theorem Qy4(h:IsDev w v own D)(hj:j<8)(x y:Nat)(hx:x<9223372036854775808)(hy:y<9223372036854775808)(h2:2<=y)(hr:D.n<x+y) :
  Calls prog 49 #[.iface 40 (.pointer (some ⟨v.tb j,0,none⟩)),.int .i64 x,.int .i64 y] w (Pu w 2):=by
 have hm1:=meth_Size ⟨v.tb j,0,none⟩;have HT:=hid (thrSize_any h hj);have hn:=h.wf.le;have hx0:¬ (x:Int)<0:=by omega
 have hy2:¬ (y:Int)<2:=by omega
 have hq:(D.n:Int)*64/64=D.n:=by omega
 clear h
 by_cases hyn:D.n<y
 ·have hyn':(D.n:Int)<y:=by omega
  go_enter func49,ntmps49
  go_wp2_with fail
  (with_reducible refine HT.out.mono ?_)
  rintro e w' ⟨rfl,rfl⟩;go_wp2_with fail
  go_ret2
  exact⟨rfl,Below.refl _ _⟩
 ·have hyn':¬ (D.n:Int)<y:=by omega
  have hxn:(D.n:Int)-y<x:=by omega
  go_enter func49,ntmps49
  go_wp2_with fail
  (with_reducible refine HT.out.mono ?_)
  rintro e w' ⟨rfl,rfl⟩;go_wp2_with fail
  go_ret2
  exact⟨rfl,Below.refl _ _⟩
def OpenPostU(w:World)(v:DV)(own:Nat->Option Qp)(D:Dev)(j off n:Nat)(r:Ending)(w':World):Prop:=
 r = .returned (.tuple #[.pointer (some ⟨w.heap.size,0,none⟩),.int .i64 0])/\LogAt w' v own D w.heap.size j off n/\Below w.heap.size w w'
theorem uOpen_ok(h:IsDev w v own D)(hj:j<8)(x y:Nat)(h2:2<=y)(hr:x+y<=D.n) :
  Calls prog 49 #[.iface 40 (.pointer (some ⟨v.tb j,0,none⟩)),.int .i64 x,.int .i64 y] w (OpenPostU w v own D j (64*x) y):=by
 have hm1:=meth_Size ⟨v.tb j,0,none⟩;have HT:=hid (thrSize_any h hj);have hn:=h.wf.le;have H:=hid h;have hx0:¬ (x:Int)<0:=by omega
 have hy2:¬ (y:Int)<2:=by omega
 have hq:(D.n:Int)*64/64=D.n:=by omega
 have hyn':¬ (D.n:Int)<y:=by omega
 have hxn:¬ (D.n:Int)-y<x:=by omega
 have e64:(x:Int)*64=((64*x:Nat):Int):=by omega
 have E64:=hid e64;clear h e64
 go_enter func49,ntmps49
 go_wp2_with fail
 (with_reducible refine HT.out.mono ?_)
 rintro e w' ⟨rfl,rfl⟩;go_wp2_with fail
 go_ret2
 refine⟨rfl,⟨H.out.alloc _,?_,?_,hj,h2,by omega,by omega⟩,Qa _ _⟩
 ·have:=Blk.new w #[.iface 40 (.pointer (some ⟨v.tb j,0,none⟩)),.int .u64 ((64*x:Nat):Int),.int .i64 y] 211
  rw[<- E64.out]at this;have e3:=E64.out;rw[<- E64.out];exact this
 ·cases ho:own w.heap.size with
  | none=>rfl
  | some r=>have:=H.out.lt w.heap.size (by rw[ho];simp);omega
theorem Mh(h:IsDev w v own D)(hj:j<8)(x y:Nat)(h2:2<=y)(hr:x+y<=D.n)(hof:D.off=false)(hvb:D.VB) :
  Calls prog 17 #[.iface 40 (.pointer (some ⟨v.tb j,0,none⟩)),.int .i64 x,.int .i64 y] w fun r w'=>∃ sv,r = .returned sv/\Acc w w.heap.size w' 140 2 sv (Qk D.cur (64*x) y).length (Qv (Qk D.cur (64*x) y)):=by
 have HO:=hid (uOpen_ok h hj x y h2 hr);have HV:=hid hvb;clear h
 go_enter func17,ntmps17
 go_wp2_with fail
 (with_reducible refine HO.out.mono ?_)
 rintro e w1 ⟨rfl,l1,b1⟩;have HS:=hid (Te l1 hof HV.out);have B1:=hid b1;clear l1 b1 HO
 go_wp2_with fail
 (with_reducible refine HS.out.mono ?_)
 rintro e w2 ⟨sv,rfl,a2⟩;have A2:=hid (a2.deeper B1.out);clear a2 HS
 go_wp2_with fail
 go_ret
 exact⟨_,rfl,A2.out⟩
end
end

section
open Go.Maps
structure OvM(N:DataW Unit)(L:List (Nat×Int)):Prop where
 has:∀ o:Nat,Maps.has N (.int .u64 (o:Int))=L.any (fun e=>e.1==o)
 val:∀ o:Nat,o%8=0->L.any (fun e=>e.1==o)=true->∀ z,N.atKey (.int .u64 (o:Int)) z = .lit (.int .u64 (Qu L 0 (o/8)))
theorem OvM.nil:OvM (.map []) []:=⟨fun o=>by simp[Maps.has],fun o _ h=>by simp at h⟩
theorem OvM.put{N:DataW Unit}{L:List (Nat×Int)}(h:OvM N L)(hN:IsMap N)(o:Nat)(ho:o%8=0)(x:Int):OvM (N.put (.int .u64 (o:Int)) (.lit (.int .u64 x))) (L ++ [(o,x)]):=by
 refine⟨fun k => ?_,fun k hk hh z => ?_⟩
 ·by_cases e:k=o
  ·subst e
   rw[has_put_same hN (show WideAt.IsKeyLit (.int .u64 (k:Int))from trivial)];simp
  ·rw[has_put_other (by intro h;injection h with _ h;exact e (by omega)),h.has k]
   have e2:¬ o=k:=fun h=>e h.symm
   simp[e2]
 ·rw[Xt]
  by_cases e:k=o
  ·subst e
   rw[atKey_put_same hN (show WideAt.IsKeyLit (.int .u64 (k:Int))from trivial),if_pos rfl]
  ·rw[atKey_put_other (by intro h;injection h with _ h;exact e (by omega)),if_neg (by simp only;omega)]
   refine h.val k hk ?_ z
   have e2:¬ o=k:=fun h=>e h.symm
   simpa [e2]using hh
theorem Qs9{L:List (Nat×Int)}{o:Nat}(ho:o%8=0)(hL:∀ e∈L,e.1%8=0)(d:Int):Qu L d (o/8)=if L.any (fun e=>e.1==o)then Qu L 0 (o/8)else d:=by
 split
 ·rename_i h
  obtain⟨e,he,h2⟩:=List.any_eq_true.1 h;exact Qak L d 0 (o/8) ⟨e,he,by simp at h2;rw[h2]⟩
 ·rename_i h
  refine Zp L d (o/8) (fun e he h2=>h ?_)
  refine List.any_eq_true.2 ⟨e,he,?_⟩
  have:=hL e he;simp;omega
structure Q8e(w:World)(v:DV)(own:Nat->Option Qp)(E:Dev)(dv:DV)(ownD:Nat->Option Qp)(D:Dev)(mb m:Nat)(lg:Value)(N:DataW Unit)(L:List (Nat×Int)):Prop where
 dev:IsDev w dv ownD D
 on:D.off=false
 derr:D.err 0=0
 sub:∀ k,ownD k≠none->own k≠none
 tb:∀ j,v.tb j=v.tb 0
 blk:Blk w (v.tb 0) #[.iface 40 (.pointer (some ⟨dv.tb 0,0,none⟩)),.map (some mb),lg,.slice none 0 0,.int .i64 0,.bool false] 244
 map:w.ownsMap prog 31 (plainElem prog 31) mb m N
 mle:m<=L.length
 len:L.length<=E.exec
 om:OvM N L
 log:Qj w 140 2 lg L.length (Qv L)
 al:∀ e∈L,e.1%8=0
 ob:own (v.tb 0)=some .dev
 omb:own mb=some .dev
 ol:∀ g,lg.ownBlock=some g->own g=some .dev
 dob:ownD (v.tb 0)=none
 dmb:ownD mb=none
 dl:∀ g,lg.ownBlock=some g->ownD g=none
 ne:v.tb 0≠mb
 nl:∀ g,lg.ownBlock=some g->g≠v.tb 0/\g≠mb
 n:E.n=D.n
 eoff:E.off=false
 eerr:∀ j,E.err j=0
 cur:∀ i,E.cur i=Qu L (D.cur i) i
namespace Ov
structure Q9j(E:Dev):Prop where
 pos:0<E.n
 le:E.n<=4096
structure IsDev(w:World)(v:DV)(own:Nat->Option Qp)(E:Dev):Prop where
 wf:Q9j E
 lt:∀ k,own k≠none->k<w.heap.size
 ex:∃ dv ownD D mb m lg N L,Q8e w v own E dv ownD D mb m lg N L
section
variable{w:World}{v:DV}{own:Nat->Option Qp}{D:Dev}
theorem IsDev.kept{w':World}(h:IsDev w v own D)(hs:w.heap.size<=w'.heap.size)(hb:∀ k,own k≠none->w'.heap[k]? = w.heap[k]?):IsDev w' v own D:=by
 obtain⟨dv,ownD,D0,mb,m,lg,N,L,h1⟩:=h.ex;refine⟨h.wf,fun k hk=>Nat.lt_of_lt_of_le (h.lt k hk) hs,dv,ownD,D0,mb,m,lg,N,L,?_⟩
 exact {h1 with dev:=h1.dev.kept hs (fun k hk=>hb k (h1.sub k hk)),blk:=(hb _ (by rw[h1.ob];simp)).trans h1.blk,
                map:=by have hm:=h1.map;unfold World.ownsMap at *;rw[hb _ (by rw[h1.omb];simp)];exact hm
                log:=h1.log.kept (fun k hk=>hb k (by rw[h1.ol k hk];simp))}
theorem IsDev.below{w':World}(h:IsDev w v own D)(hb:Below w.heap.size w w'):IsDev w' v own D:=h.kept hb.size (fun k hk=>hb.block k (h.lt k hk))
theorem IsDev.alloc(h:IsDev w v own D)(o:Obj):IsDev (w.alloc o) v own D:=h.below (Qa w o)
theorem meth_Size(a:Addr)(w:World):(method 461 141 (.pointer (some a)) "Size").run prog w = .ok (301,.pointer (some a)) w:=by kernel_rfl
theorem meth_Err(a:Addr)(w:World):(method 461 141 (.pointer (some a)) "Err").run prog w = .ok (297,.pointer (some a)) w:=by kernel_rfl
theorem meth_Load(a:Addr)(w:World):(method 461 141 (.pointer (some a)) "Load").run prog w = .ok (300,.pointer (some a)) w:=by kernel_rfl
theorem Fv(a:Addr)(w:World):(method 461 141 (.pointer (some a)) "Store").run prog w = .ok (302,.pointer (some a)) w:=by kernel_rfl
theorem Nn(a:Addr)(w:World):(method 461 141 (.pointer (some a)) "Flush").run prog w = .ok (299,.pointer (some a)) w:=by kernel_rfl
theorem Nm(a:Addr)(w:World):(method 461 141 (.pointer (some a)) "Fence").run prog w = .ok (298,.pointer (some a)) w:=by kernel_rfl
theorem thrSize_any(h:IsDev w v own D){j:Nat}(_hj:j<8):Calls prog 301 #[.pointer (some ⟨v.tb j,0,none⟩)] w fun r w'=>r = .returned (.int .u64 (D.n*64))/\w=w':=by
 obtain⟨dv,ownD,D0,mb,m,lg,N,L,h1⟩:=h.ex;rw[h1.tb j,h1.n];have HT:=hid (Go.Proofs.YtlhchkajjpefmaaGreatDoor.thrSize_any h1.dev (j:=0) (by omega));have hm:=Go.Proofs.YtlhchkajjpefmaaGreatDoor.meth_Size ⟨dv.tb 0,0,none⟩;have c0:=h1.blk.cell (i:=0) rfl;clear h h1
 go_enter func301,ntmps301
 go_wp2_with fail
 (with_reducible refine HT.out.mono ?_)
 rintro r w1 ⟨rfl,rfl⟩;go_wp2_with fail
 go_ret
 exact⟨rfl,rfl⟩
theorem err_any(h:IsDev w v own D){j:Nat}(_hj:j<8):Calls prog 297 #[.pointer (some ⟨v.tb j,0,none⟩)] w fun r w'=>r = .returned (.int .i64 (D.err j))/\w=w':=by
 obtain⟨dv,ownD,D0,mb,m,lg,N,L,h1⟩:=h.ex;rw[h1.tb j,h1.eerr j];have HT:=hid (Go.Proofs.YtlhchkajjpefmaaGreatDoor.err_any h1.dev (j:=0) (by omega));rw[h1.derr]at HT;have hm:=Go.Proofs.YtlhchkajjpefmaaGreatDoor.meth_Err ⟨dv.tb 0,0,none⟩;have c0:=h1.blk.cell (i:=0) rfl;have c5:=h1.blk.cell (i:=5) rfl;clear h h1
 go_enter func297,ntmps297
 go_wp2_with fail
 (with_reducible refine HT.out.mono ?_)
 rintro r w1 ⟨rfl,rfl⟩;go_wp2_with fail
 go_ret
 exact⟨rfl,rfl⟩
theorem Qy8(w:World):(zeroValue 31).run prog w = .ok (.int .u64 0) w:=by kernel_rfl
theorem Qtb{b m:Nat}{N:DataW Unit}{L:List (Nat×Int)}(h:w.ownsMap prog 31 (plainElem prog 31) b m N)(hK:OvM N L)(o:Nat)(ho:o<18446744073709551616)(h8:o%8=0) :
  ∃ x:Int,(Instr.lookup 241 (.map (some b)) (.int .u64 (o:Int)) true).run prog w = .ok (.tuple #[.int .u64 x,.bool (L.any (fun e=>e.1==o))]) w/\(L.any (fun e=>e.1==o)=true->x=Qu L 0 (o/8)):=by
 obtain⟨v,ps,hr,hv⟩:=h.look_ok (int_keyed underlying31) underlying241 (Qy8 w) (plainElem_int (H:=Unit) underlying31 (WalkArith.wf_u64 (n:=0) (by omega))) (show keyOf prog 31 (.int .u64 (o:Int))=some (.int .u64 (o:Int))from keyOf_int_mk underlying31 (WalkArith.wf_u64 (by omega)));obtain⟨c,rfl,hc,_⟩:=plainElem_int_inv underlying31 hv;rw[hK.has o]at hr;refine⟨c,hr,fun hh => ?_⟩
 rw[hK.val o h8 hh]at hc;have:=congrArg Prod.fst hc;simpa using this.symm
theorem load_ok(h:IsDev w v own D){j:Nat}(_hj:j<8)(off:Nat)(_hoff:D.off=false)(hw:off%8=0)(hl:off<64*D.n) :
  Calls prog 300 #[.pointer (some ⟨v.tb j,0,none⟩),.int .u64 off] w fun r w'=>r = .returned (.int .u64 (D.cur (off/8)))/\w=w':=by
 have hle:=h.wf.le;obtain⟨dv,ownD,D0,mb,m,lg,N,L,h1⟩:=h.ex;rw[h1.tb j,h1.cur,Qs9 hw h1.al];have HL:=hid (Go.Proofs.YtlhchkajjpefmaaGreatDoor.load_ok h1.dev (j:=0) (by omega) off h1.on hw (by rw[<- h1.n];exact hl));obtain⟨x,hx,hx2⟩:=Qtb h1.map h1.om off (by omega) hw;have hm:=Go.Proofs.YtlhchkajjpefmaaGreatDoor.meth_Load ⟨dv.tb 0,0,none⟩;have c0:=h1.blk.cell (i:=0) rfl;have c1:=h1.blk.cell (i:=1) rfl
 generalize Qu L 0 (off/8)=y at *
 generalize D0.cur (off/8)=z at *
 generalize L.any (fun e=>e.1==off)=b at *
 clear h h1
 cases b
 ·clear hx2
  go_enter func300,ntmps300
  go_wp2_with fail
  (with_reducible refine HL.out.mono ?_)
  rintro r w1 ⟨rfl,rfl⟩;go_wp2_with fail
  go_ret
  exact⟨rfl,rfl⟩
 ·have e:=hx2 rfl
  subst e;clear hx2
  go_enter func300,ntmps300
  go_wp2_with fail
  go_ret
  exact⟨rfl,rfl⟩
end
end Ov
end
end Go.Proofs.YtlhchkajjpefmaaGreatDoor
