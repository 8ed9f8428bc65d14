/- Lemmas and walks, part 27: each theorem says what it proves; no condition beside its own. -/
import Derived.Test.YtlhchkajjpefmaaGreatDoorK26
set_option maxHeartbeats 16000000
set_option maxRecDepth 100000
namespace Go.Proofs.YtlhchkajjpefmaaGreatDoor
open Lib(hid)
open Go.RowKit Go.Proofs.Tryz
section
open Go.Maps
attribute [local go_sem ↓] Go.wp_at_zero Go.wp_at_succ
def Qwj(W:Nat->Nat)(e:Nat):Bool:=Yc W e&&(W (4*e+3) != Qgs (W (4*e)) (W (4*e+1)) || !Vt (Ws W e))
def Tk(W:Nat->Nat)(e:Nat):List (List UInt8):=((List.range e).filter (Yc W)).map (Ws W)
def Q6j(W:Nat->Nat)(e:Nat):Bool:=Yc W e&&decide (Ws W e∈Tk W e)
def twE(W:Nat->Nat)(e:Nat):Bool:=(List.range e).any (Q6j W)
def Bz(W:Nat->Nat):Nat:=if(List.range 16).any (Qwj W)then 10 else if twE W 16 then 11 else 0
theorem Qjg(W:Nat->Nat)(e:Nat):Tk W (e+1)=if Yc W e then Tk W e ++ [Ws W e]else Tk W e:=by
 unfold Tk;rw[List.range_succ,List.filter_append,List.map_append]
 cases h:Yc W e <;> simp[h]
theorem Qul(W:Nat->Nat)(e:Nat):twE W (e+1)=(twE W e || Q6j W e):=by
 unfold twE;rw[List.range_succ,List.any_append];simp
theorem Qrg{p:Nat->Bool}{n:Nat}(h:Al p n):(List.range n).any p=false:=by
 rw[List.any_eq_false];intro x hx;rw[h x (List.mem_range.1 hx)];simp
theorem Qls{p:Nat->Bool}{n e:Nat}(he:e<n)(h:p e=true):(List.range n).any p=true:=by
 rw[List.any_eq_true];exact⟨e,List.mem_range.2 he,h⟩
def Qrb(N:DataW Unit)(K:List (List UInt8)):Prop:=∀ x:List UInt8,N.atKey (.string x) (.lit (.bool false)) = .lit (.bool (decide (x∈K)))
theorem Qrb.nil:Qrb (.map []) []:=fun x=>by simp[DataW.atKey]
theorem Qrb.put{N:DataW Unit}{K:List (List UInt8)}(h:Qrb N K)(hN:IsMap N)(o:List UInt8):Qrb (N.put (.string o) (.lit (.bool true))) (K ++ [o]):=fun x=>by
 by_cases e:x=o
 ·subst e
  rw[atKey_put_same hN (show WideAt.IsKeyLit (.string x)from trivial)];simp
 ·rw[atKey_put_other (by intro h;injection h with h;exact e h),h x]
  simp[e]
theorem Ir{P:Program}{e:TypeId}(he:P.underlying e=some .bool){v:Value}{z:DataW Unit×List MemPlace}(h:plainElem P e v=some z):∃ b,v = .bool b/\z=(.lit (.bool b),[]):=by
 unfold plainElem at h;rw[he]at h
 cases v <;> simp at h
 exact⟨_,rfl,h.symm⟩
theorem Qny:Keyed prog 9:=string_keyed underlying9
theorem Q3u(w:World):(zeroValue 4).run prog w = .ok (.bool false) w:=by kernel_rfl
section
variable{w:World}
theorem Qn5{b m:Nat}{N:DataW Unit}{K:List (List UInt8)}(h:w.ownsMap prog 9 (plainElem prog 4) b m N)(hK:Qrb N K)(s:ByteArray)(hs:s.size<=maxLen) :
  (Instr.lookup 234 (.map (some b)) (.string s) false).run prog w = .ok (.bool (decide (s.data.toList∈K))) w:=by
 obtain⟨v,ps,hrun,hv⟩:=h.lookup Qny underlying234 (Q3u w) (plainElem_bool underlying4 false) (WideMaps.keyOf_string_mk underlying9 hs);obtain⟨x,rfl,hx⟩:=Ir underlying4 hv;rw[hK]at hx;simp only[Prod.mk.injEq,DataW.lit.injEq,Lit.bool.injEq]at hx;rw[hrun,hx.1]
structure Qut(w:World)(h:Nat)(H:Array Value)(g:Nat)(A:Array Value)(mb:Nat)(K:List (List UInt8))(wr:World):Prop where
 hb:Blk wr h H 228
 blk:Blk wr g A 231
 m:∃ (N:DataW Unit) (m:Nat),m<=K.length/\wr.ownsMap prog 9 (plainElem prog 4) mb m N/\Qrb N K
 bel:Below w.heap.size w wr
 new:w.heap.size<=mb
 n1:h≠mb
 n2:g≠mb
variable{h g mb:Nat}{H A:Array Value}{K:List (List UInt8)}{wr wz w1:World}
theorem Qut.keep(s:Qut w h H g A mb K wr)(hz:Below wr.heap.size wr wz):Qut w h H g A mb K wz:=by
 obtain⟨N,m,h1,h2,h3⟩:=s.m;exact⟨s.hb.below hz,s.blk.below hz,⟨N,m,h1,h2.kept (row:=none) ⟨hz.os,hz.tape,hz.output,hz.size,fun k hk _=>hz.block k hk⟩ (by simp),h3⟩,s.bel.trans (hz.mono s.bel.size),s.new,s.n1,s.n2⟩
theorem Qut.put(s:Qut w h H g A mb K wr)(hz:wr.grownBy w1 (some mb)){N:DataW Unit}{m:Nat}{o:List UInt8}(hm:m<=K.length)(hN:IsMap N)(hS:Qrb N K)(h1:w1.ownsMap prog 9 (plainElem prog 4) mb (m+1) (N.put (.string o) (.lit (.bool true)))) :
  Qut w h H g A mb (K ++ [o]) w1:=
 ⟨(hz.block h s.hb.lt (fun e=>s.n1 (Option.some.inj e))).trans s.hb,(hz.block g s.blk.lt (fun e=>s.n2 (Option.some.inj e))).trans s.blk,⟨_,m+1,by simp;omega,h1,hS.put hN o⟩,
   s.bel.grown hz s.bel.size (fun k hk=>by cases hk;exact s.new),s.new,s.n1,s.n2⟩
end
section
variable{w:World}{v:DV}{own:Nat->Option Qp}{D:Dev}{j:Nat}{W:Nat->Nat}
def Q5v(w:World)(v:DV)(j off:Nat)(W:Nat->Nat)(r:Ending)(w':World):Prop:=
 (Bz W≠0/\r = .returned (.tuple #[.pointer none,.int .i64 (Bz W:Nat)])/\Below w.heap.size w w') \/
 (Bz W=0/\r = .returned (.tuple #[.pointer (some ⟨w.heap.size,0,none⟩),.int .i64 0])/\Yg w' w.heap.size off (.iface 40 (.pointer (some ⟨v.tb j,0,none⟩)))/\Below w.heap.size w w')
structure RdB(g:Nat)(c:Array Value)(w wx:World):Prop where
 blk:Blk wx g c 230
 bel:Below w.heap.size w wx
theorem RdB.next{g:Nat}{c:Array Value}{wx wy:World}(h:RdB g c w wx)(hb:Below wx.heap.size wx wy):RdB g c w wy:=⟨h.blk.below hb,h.bel.trans (hb.mono h.bel.size)⟩
theorem Qkk(h:IsDev w v own D)(hN:Nib w)(hj:j<8)(l:Nat)(hof:D.off=false)(he:D.err j=0)(hW:WAt D (64*l) W) :
  Calls prog 62 #[.iface 40 (.pointer (some ⟨v.tb j,0,none⟩)),.int .i64 l] w (Q5v w v j (64*l) W):=by
 have hwf:=h.wf.le;have hfit:=hW.fit;have hn:=Un h hj l (by omega);rw[show Re D.n l=false by unfold Re;simp;omega]at hn;have HN:=hid hn;have hmm:=@run_makeMap prog;have HNB:=hid hN;have H:=hid h;have hlb:l<=4096:=by omega
 have HON:=hid (fun(wx:World) (b:Nat) (hd:IsDev wx v own D) (hx:Yg wx b (64*l) (.iface 40 (.pointer (some ⟨v.tb j,0,none⟩))))=>(show DOn wx v own D j b (64*l) W from⟨hd,hj,hx,hof,he,hW⟩).load);have HIA:=hid (Qaf W);have HSZ:Hid (64=(wsN W).size):=(Qbq W).symm
 have HOA2:Hid ((wsN W).all (·.oneCell')=true):=Cs _;have HIX:=hid (fun(e:Nat) (he:e<16) (wx:World)=>Qso W e he wx);have HNMW:=hid (fun(wx:World) (e:Nat)=>Lc (w:=wx) (W (4*e)) (W (4*e+1)) (W (4*e+2)) (W (4*e+3)) (hW.bd _) (hW.bd _));have HTG:=hid (fun(wx:World) (hx:Nib wx) (e:Nat)=>Qdt (w:=wx) hx (W (4*e)) (W (4*e+1)) (W (4*e+2)) (W (4*e+3)) (hW.bd _) (hW.bd _));have HNV:=hid (fun(wx:World) (s:ByteArray)=>Nz (w:=wx) s);obtain⟨o,ho⟩:∃ o,64*l=o:=⟨_,rfl⟩;have q1:(l:Int)*64=(o:Int):=by omega
 have hol:o<=262144:=by omega
 rw[ho]at HON ⊢;have HO1:Hid ((List.range 16).any (Qwj W)=true->Bz W=10):=fun h=>by unfold Bz;rw[h];rfl
 have HO2:Hid ((List.range 16).any (Qwj W)=false->Bz W=if twE W 16 then 11 else 0):=fun h=>by unfold Bz;rw[h];rfl
 have HB0:Hid (Yg (w.alloc (.cells #[.iface 40 (.pointer (some ⟨v.tb j,0,none⟩)),.int .u64 o] 228)) w.heap.size o (.iface 40 (.pointer (some ⟨v.tb j,0,none⟩)))):=⟨Blk.new w _ _⟩;have HBB:=hid (Qa w (.cells #[.iface 40 (.pointer (some ⟨v.tb j,0,none⟩)),.int .u64 o] 228))
 generalize wsN W=A at *
 clear h hN hn hof he hW ho hwf hfit
 go_enter func62,ntmps62
 go_wp2_with fail
 (with_reducible refine HN.out.mono ?_)
 rintro r w' ⟨rfl,rfl⟩;go_wp2_with fail
 (with_reducible refine(HON.out _ _ (H.out.below HBB.out) HB0.out).mono ?_)
 rintro r w1 ⟨rfl,b1⟩;have D1:=hid (HB0.out.next b1);have B1:=hid (HBB.out.trans (b1.mono HBB.out.size));clear b1 HON HB0 HBB;go_wp2_with (first | (refine wpList_store_row rfl 231 (.tmp 7) (.tmp 27) rfl w1.heap.size A rfl rfl 231 _ (Blk.new w1 _ _) HIA.out HSZ.out HOA2.out ?_;obtain⟨w2,hw2,k2,b2⟩:=Mn w1 _ A;rw[hw2];have K2:=hid k2;have D2:=hid (D1.out.next b2);have B2:=hid (B1.out.trans (b2.mono B1.out.size));have L2:=hid b2.size;have M0:=hid (World.ownsMap_made (H:=Unit) w2 prog 9 (plainElem prog 4));clear hw2 k2 b2 B1 D1) | (refine wpList_load_row rfl 231 (.tmp 7) rfl w1.heap.size rfl 231 A (0,0) _ ((K2.out.alloc _)) underlying231 rfl HIA.out ?_))
 have S0:Hid (Qut w w.heap.size #[.iface 40 (.pointer (some ⟨v.tb j,0,none⟩)),.int .u64 o] w1.heap.size A w2.heap.size (Tk W 0) (w2.alloc (.map #[] 0))):=by
  refine⟨D2.out.blk.alloc _,K2.out.alloc _,⟨_,0,Nat.le_refl _,M0.out,Qrb.nil⟩,B2.out.trans ((Qa _ _).mono B2.out.size),B2.out.size,?_,?_⟩
  ·have:=D2.out.blk.lt;omega
  ·have:=K2.out.lt;omega
 clear K2 D2 B2 M0 L2;have HIW:Hid ((Tryz.prog.info? 230).map (·.size)=some 4):=by show _=_;kernel_rfl
 go_loopw [10,12,13,14,34] (fun tv _ _ _ y wr=>∃ e:Nat,e<=16/\y = .int .i64 e/\tv = .bool (twE W e)/\Qut w w.heap.size #[.iface 40 (.pointer (some ⟨v.tb j,0,none⟩)),.int .u64 o] w1.heap.size A w2.heap.size (Tk W e) wr/\Al (Qwj W) e) (fun _ _ _ _ y _=>16-(intOf y).toNat)
 case atStart=>exact⟨0,by omega,rfl,rfl,S0.out,fun j hj=>by omega⟩
 case round=>
  clear S0
  generalize w2.heap.size=mb at *
  generalize w1.heap.size=g at *
  obtain⟨e,he,rfl,rfl,hs,hno⟩:=hrel;have S:=hid hs;have NO:=hid hno
  clear hs hno
  by_cases hlt:e<16
  ·have he':(e:Int)<16:=by omega
   have hix:=fun wx=>HIX.out e hlt wx
   have hnmw:=fun wx=>HNMW.out wx e
   have htg:=fun wx hx=>HTG.out wx hx e
   have hks:=Qjg W e;have htw:=Qul W e;have hbad:Qwj W e=(Yc W e&&(W (4*e+3) != Qgs (W (4*e)) (W (4*e+1)) || !Vt (Ws W e))):=rfl;have hdup:Q6j W e=(Yc W e&&decide (Ws W e∈Tk W e)):=rfl;have hus:Yc W e=(W (4*e+3) != 0):=rfl;have hnm:Ws W e=nmL (W (4*e)) (W (4*e+1)):=rfl;have htl:=Qbm (W (4*e)) (W (4*e+1));rw[hus]at hks hbad hdup;rw[hnm]at hks hbad hdup;rw[hdup]at htw;obtain⟨x0,hx0⟩:∃ x,W (4*e)=x:=⟨_,rfl⟩;obtain⟨x1,hx1⟩:∃ x,W (4*e+1)=x:=⟨_,rfl⟩;obtain⟨x2,hx2⟩:∃ x,W (4*e+2)=x:=⟨_,rfl⟩;obtain⟨x3,hx3⟩:∃ x,W (4*e+3)=x:=⟨_,rfl⟩;rw[hx0,hx1,hx2,hx3]at hix hnmw htg;rw[hx0,hx1,hx3]at hks hbad;rw[hx0,hx1,hx3]at htw;rw[hx0,hx1]at htl;have hes:enS x0 x1 x3=if x3=0 then⟨#[]⟩else nmS x0 x1:=rfl
   have hns:=Qav x0 x1
   generalize Qgs x0 x1=tg at *
   generalize nmL x0 x1=nl at *
   generalize nmS x0 x1=ns at *
   have HBAD:=hid hbad;have HKS:=hid hks;have HTW:=hid htw;have HTGE:=hid htg
   have S1:=hid (S.out.keep (Qa wr (.cells #[.int .u64 x0,.int .u64 x1,.int .u64 x2,.int .u64 x3] 230)));have R1:Hid (RdB wr.heap.size #[.int .u64 x0,.int .u64 x1,.int .u64 x2,.int .u64 x3] w (wr.alloc (.cells #[.int .u64 x0,.int .u64 x1,.int .u64 x2,.int .u64 x3] 230))):=⟨Blk.new wr _ _,S1.out.bel⟩;clear hx0 hx1 hx2 hx3 hbad hks htw hdup hus hnm htg S
   by_cases h3:x3=0
   ·rw[show(x3 != 0)=false by simp[h3]]at hnmw
    have HNE:=hid hnmw;have HK2:Hid (Tk W (e+1)=Tk W e):=by show _=_;rw[HKS.out];simp[h3]
    have HT2:Hid (twE W (e+1)=twE W e):=by show _=_;rw[HTW.out];simp[h3]
    have NO2:Hid (Al (Qwj W) (e+1)):=fun j hj=>by
     by_cases ej:j=e
     ·subst ej;rw[HBAD.out];simp[h3]
     ·exact NO.out j (by omega)
    generalize enS x0 x1 x3=es at *
    clear h3 hes hnmw;go_wp2_with fail
    (with_reducible refine(HNE.out _).mono ?_)
    rintro r w' ⟨rfl,b1⟩;have S2:=hid (S1.out.keep b1);clear b1 R1;go_wp2_with fail
    go_roundw
    case rel=>exact⟨e+1,by omega,by go_num,by rw[HT2.out],by rw[HK2.out];exact S2.out,NO2.out⟩
    case measure=>simp[intOf];omega
   ·rw[if_neg h3]at hes
    rw[hes,show(x3 != 0)=true by simp[h3]]at hnmw;have HNE:=hid hnmw;have H3:=hid h3;clear h3 hes hnmw;go_wp2_with fail
    (with_reducible refine(HNE.out _).mono ?_)
    rintro r w5 ⟨rfl,b1⟩;have S2:=hid (S1.out.keep b1);have R2:=hid (R1.out.next b1);clear b1 S1 R1
    generalize wr.heap.size=gw at *
    have R3:=hid (R2.out.next ((Below.refl _ _).drew));have S3:=hid (S2.out.keep ((Below.refl _ _).drew));clear R2 S2;go_wp2_with fail
    refine wp_region_held (S:=(fun wx=>RdB gw #[.int .u64 x0,.int .u64 x1,.int .u64 x2,.int .u64 x3] w wx)) (by kernel_rfl) ?_
    change wpAnyH _ _ _ _ _ _ _ _ (World.drew _)
    refine tkH 0 (.pointer (some ⟨gw,3,none⟩)) rfl (fun w _=>by go_simp) R3.out ?_
    refine tkH 1 (.int .u64 x3) rfl (fun wx hx=>(by have c:=hx.blk.cell (i:=3) (v:=.int .u64 x3) rfl;go_simp)) R3.out ?_
    refine tkH 2 (.agg #[.int .u64 x0,.int .u64 x1,.int .u64 x2,.int .u64 x3]) rfl (fun wx hx=>Ym 230 (.tmp 12) rfl gw rfl 230 #[.int .u64 x0,.int .u64 x1,.int .u64 x2,.int .u64 x3] (0,0) _ hx.blk underlying230 rfl HIW.out) R3.out ?_
    refine onH 3 rfl (fun K hK => ?_);go_simp
    (with_reducible refine(HTGE.out _ (HNB.out.below R3.out.bel)).mono ?_)
    rintro r w6 ⟨rfl,b6⟩;have R4:=hid (R3.out.next b6);have S4:=hid (S3.out.keep b6);clear b6
    go_simp;refine hK _ _ ⟨R4.out,?_⟩;clear hK K
    clear R3 S3
    by_cases ht:x3=tg
    ·have hbt:((x3:Int) != (tg:Int))=false:=by simp;omega
     have HT1:Hid ((x3 != tg)=false):=by show _=_;simp[ht]
     clear ht;refine tkH 4 (.bool false) rfl (fun w _=>by go_simp) R4.out ?_
     refine tkH 5 (.bool false) rfl (fun w _=>by go_simp) R4.out ?_
     refine tkH 6 (.string ns) rfl (fun w _=>by go_simp) R4.out ?_
     have hnv:=HNV.out w6 ns;rw[hns]at hnv
     cases hnb:Vt nl
     ·rw[hnb]at hnv
      have HNV2:=hid hnv;have HE10:Hid (Bz W=10):=HO1.out (Qls hlt (by rw[HBAD.out,hnb,HT1.out];simp[H3.out]));clear hnv hnb;refine onH 7 rfl (fun K hK => ?_);go_simp
      (with_reducible refine HNV2.out.mono ?_)
      rintro r w' ⟨rfl,rfl⟩
      go_simp;refine hK _ _ ⟨R4.out,?_⟩;clear hK K
      refine tkH 8 (.bool true) rfl (fun w _=>by go_simp) R4.out ?_
      refine tkH 9 (.bool true) rfl (fun w _=>by go_simp) R4.out ?_
      refine wpAnyH_done (by kernel_rfl) ?_ _
      go_wp2_with fail
      go_ret2
      exact .inl ⟨by rw[HE10.out];decide,by rw[HE10.out];rfl,R4.out.bel⟩
     ·rw[hnb]at hnv
      have HNV2:=hid hnv;have NO2:Hid (Al (Qwj W) (e+1)):=fun j hj=>by
       by_cases ej:j=e
       ·subst ej;rw[HBAD.out,hnb,HT1.out];simp
       ·exact NO.out j (by omega)
      have HK2:Hid (Tk W (e+1)=Tk W e ++ [nl]):=by show _=_;rw[HKS.out];simp[H3.out]
      have HT2:Hid (twE W (e+1)=(twE W e || decide (nl∈Tk W e))):=by show _=_;rw[HTW.out,show(x3 != 0)=true by simp[H3.out],Bool.true_and]
      have HNL:=hid (Qao hnb);clear hnv hnb;refine onH 7 rfl (fun K hK => ?_);go_simp
      (with_reducible refine HNV2.out.mono ?_)
      rintro r w' ⟨rfl,rfl⟩
      go_simp;refine hK _ _ ⟨R4.out,?_⟩;clear hK K
      refine tkH 8 (.bool false) rfl (fun w _=>by go_simp) R4.out ?_
      refine tkH 9 (.bool false) rfl (fun w _=>by go_simp) R4.out ?_
      refine wpAnyH_done (by kernel_rfl) ?_ _
      obtain⟨N,mm,hmK,hown,hset⟩:=S4.out.m;have hkl:(Tk W e).length<=16:=by unfold Tk;rw[List.length_map];have:=List.length_filter_le (Yc W) (List.range e);rw[List.length_range]at this;omega
      have hmlen:mm<maxLen:=by unfold maxLen;omega
      have hnsz:ns.size<=maxLen:=by have:=HNL.out.le;rw[<- hns,Cn]at this;unfold maxLen;omega
      have hkey:=WideMaps.keyOf_string_mk (P:=prog) underlying9 hnsz;have hlk:=Qn5 hown hset ns hnsz;rw[<- ByteArray.toList_eq,hns]at hlk hkey;have HX:=hid (And.intro hmK (And.intro hown hset));have HKEY:=hid hkey;clear hmK hown hset hkl hnsz hkey hns
      cases htw:twE W e
      ·rw[htw,Bool.false_or]at HT2
       generalize decide (nl∈Tk W e)=dk at *
       go_wp2_with (at_mapUpdate;refine wpList_mapUpdate_own _ rfl _ _ _ 234 rfl 9 4 Qny underlying234 _ mb mm _ rfl HX.out.2.1 hmlen _ _ _ rfl rfl HKEY.out _ [] (plainElem_bool underlying4 true) ?_;intro w7 o7 g7)
       have S7:=hid (S4.out.put g7 HX.out.1 HX.out.2.1.isMap HX.out.2.2 o7);clear o7 g7 HX S4 R4;go_wp2_with fail
       go_roundw
       case rel=>exact⟨e+1,by omega,by go_num,by rw[HT2.out],by rw[HK2.out];exact S7.out,NO2.out⟩
       case measure=>simp[intOf];omega
      ·rw[htw,Bool.true_or]at HT2
       go_wp2_with (at_mapUpdate;refine wpList_mapUpdate_own _ rfl _ _ _ 234 rfl 9 4 Qny underlying234 _ mb mm _ rfl HX.out.2.1 hmlen _ _ _ rfl rfl HKEY.out _ [] (plainElem_bool underlying4 true) ?_;intro w7 o7 g7)
       have S7:=hid (S4.out.put g7 HX.out.1 HX.out.2.1.isMap HX.out.2.2 o7);clear o7 g7 HX S4 R4;go_wp2_with fail
       go_roundw
       case rel=>exact⟨e+1,by omega,by go_num,by rw[HT2.out],by rw[HK2.out];exact S7.out,NO2.out⟩
       case measure=>simp[intOf];omega
    ·have hbt:((x3:Int) != (tg:Int))=true:=by simp;omega
     have HE10:Hid (Bz W=10):=HO1.out (Qls hlt (by rw[HBAD.out];simp[H3.out,ht]));clear ht;refine tkH 4 (.bool true) rfl (fun w _=>by go_simp) R4.out ?_
     refine tkH 5 (.bool true) rfl (fun w _=>by go_simp) R4.out ?_
     refine offH 6 rfl R4.out ?_
     refine offH 7 rfl R4.out ?_
     refine offH 8 rfl R4.out ?_
     refine tkH 9 (.bool true) rfl (fun w _=>by go_simp) R4.out ?_
     refine wpAnyH_done (by kernel_rfl) ?_ _
     go_wp2_with fail
     go_ret2
     exact .inl ⟨by rw[HE10.out];decide,by rw[HE10.out];rfl,R4.out.bel⟩
  ·obtain rfl:e=16:=by omega
   have HE:=hid (HO2.out (Qrg NO.out))
   cases htw:twE W 16
   ·have HE0:Hid (Bz W=0):=by show _=_;rw[HE.out,htw];rfl
    go_wp2_with fail
    go_ret2
    exact .inr ⟨HE0.out,rfl,⟨S.out.hb⟩,S.out.bel⟩
   ·have HE0:Hid (Bz W=11):=by show _=_;rw[HE.out,htw];rfl
    go_wp2_with fail
    go_ret2
    exact .inl ⟨by rw[HE0.out];decide,by rw[HE0.out];rfl,S.out.bel⟩
end
end

section
open Go.Maps
attribute [local go_sem ↓] Go.wp_at_zero Go.wp_at_succ
abbrev Ent:=ByteArray×Nat
def ltE(a b:Ent):Bool:=Op.bytesLess a.1.toList b.1.toList
def Qj8(S:List Ent)(e:Ent):Nat->Nat
 | 0=>0
 | j+1=>if ltE e (S.getD j e)then Qj8 S e j else j+1
theorem Qpe(S:List Ent)(e:Ent):∀ j,Qj8 S e j<=j
 | 0=>Nat.le_refl _
 | j+1=>by
  unfold Qj8
  split
  ·have:=Qpe S e j;omega
  ·exact Nat.le_refl _
def Qhi(S:List Ent)(e:Ent):List Ent:=S.take (Qj8 S e S.length)++e::S.drop (Qj8 S e S.length)
theorem Qsx(S:List Ent)(e:Ent):(Qhi S e).length=S.length+1:=by
 have:=Qpe S e S.length;unfold Qhi;simp;omega
def Tm(L:List Ent):List Ent:=L.foldl Qhi []
theorem Qp7(L:List Ent)(e:Ent):Tm (L ++ [e])=Qhi (Tm L) e:=by simp[Tm]
theorem Kg(L:List Ent):(Tm L).length=L.length:=by
 have key:∀ (L S:List Ent),(L.foldl Qhi S).length=S.length+L.length:=by
  intro L
  induction L with
  | nil=>intro S;rfl
  | cons e L ih=>intro S;simp only[List.foldl_cons,ih,Qsx,List.length_cons];omega
 have:=key L [];unfold Tm;simpa using this
def eC(l:List Ent):List Value:=l.flatMap fun e => [.string e.1,.int .u64 e.2]
theorem Qml(a b:List Ent):eC (a++b)=eC a++eC b:=by simp[eC]
theorem Qmm(l:List Ent):∀ u∈eC l,u.oneCell'=true:=by
 intro u hu;simp[eC]at hu;obtain⟨a,b,_,rfl | rfl⟩:=hu <;> rfl
theorem Ly(l:List Ent):∀ (k:Nat) (e:Ent),l[k]? = some e->(eC l)[k*2]? = some (.string e.1)/\(eC l)[k*2+1]? = some (.int .u64 e.2):=by
 induction l with
 | nil=>intro k e h;simp at h
 | cons x l ih=>
  intro k e he;have hf:eC (x::l) = .string x.1 :: .int .u64 x.2::eC l:=rfl
  cases k with
  | zero=>simp at he;subst he;simp[hf]
  | succ k=>
   have:=ih k e (by simpa using he);rw[hf,show(k+1)*2=k*2+1+1 from by omega];simpa using this
theorem Q0s(l:List Ent):∀ (k:Nat) (e:Ent),((eC l).set (k*2) (.string e.1)).set (k*2+1) (.int .u64 e.2)=eC (l.set k e):=by
 induction l with
 | nil=>intro k e;rfl
 | cons x l ih=>
  intro k e;have hf:eC (x::l) = .string x.1 :: .int .u64 x.2::eC l:=rfl
  cases k with
  | zero=>rfl
  | succ k=>
   rw[hf,show(k+1)*2=k*2+1+1 from by omega];simp only[List.set_cons_succ];rw[ih k e]
   rfl
theorem Qj.setQ{w:World}{e:TypeId}{size:Nat}{a:Option Addr}{n c:Nat}{xs:List Value}(h:Qj w e size (.slice a n c) n xs){i:Nat}(hi:i<n*size)(u:Value) :
  ∃ g o,a=some ⟨g,o,none⟩/\w.cell? ⟨g,o+i,none⟩=xs[i]? /\ w.frozen? ⟨g,o+i,none⟩=false/\g<w.heap.size/\Qj (w.setCell ⟨g,o+i,none⟩ u) e size (.slice a n c) n (xs.set i u):=by
 obtain⟨h1,h2⟩:=h
 rcases h2 with ⟨h2,rfl⟩ | ⟨g,o,cap,cur,hv,hb,hc,hm,hs,ht⟩
 ·simp at hi
 ·cases hv
  have hcs:n*size<=c*size:=Nat.mul_le_mul_right _ hc;have hlen:cur.toList.length=cur.size:=rfl;have hx:xs[i]? = cur[o+i]?:=by
   rw[<- ht,List.getElem?_take,if_pos (by omega),List.getElem?_drop];simp
  refine⟨g,o,rfl,?_,hb.frozen _,hb.lt,by rw[List.length_set];exact h1,.inr ⟨g,o,_,_,rfl,hb.set (o+i) u,hc,hm,by simp;omega,?_⟩⟩
  ·rw[hx,Array.getElem?_eq_getElem (by omega)]
   exact hb.cell (Array.getElem?_eq_getElem (by omega))
  ·apply List.ext_getElem?
   intro k;have hk:((cur.toList.drop o).take (n*size))[k]? = xs[k]?:=by rw[ht]
   simp only[List.getElem?_take,List.getElem?_drop,Array.toList_setIfInBounds,List.getElem?_set]at hk ⊢
   by_cases e1:k<n*size
   ·rw[if_pos e1]at hk ⊢
    by_cases e2:i=k
    ·subst e2
     rw[if_pos rfl,if_pos rfl,if_pos (by omega),if_pos (by omega)]
    ·rw[if_neg (by omega),if_neg e2];exact hk
   ·rw[if_neg e1]at hk ⊢
    rw[if_neg (by omega)];exact hk
structure Mo(w:World)(g o n c:Nat)(L:List Ent)(wr:World):Prop where
 own:Qj wr 171 2 (.slice (some ⟨g,o,none⟩) n c) n (eC L)
 len:L.length=n
 bel:Below w.heap.size w wr
 new:w.heap.size<=g
section
variable{w wr wz:World}{g o n c:Nat}{L:List Ent}
theorem Mo.lt(h:Mo w g o n c L wr):g<wr.heap.size:=h.own.lt g rfl
theorem Mo.next(h:Mo w g o n c L wr)(hb:Below wr.heap.size wr wz):Mo w g o n c L wz:=⟨h.own.kept (fun k hk=>by cases hk;exact hb.block _ h.lt),h.len,h.bel.trans (hb.mono h.bel.size),h.new⟩
theorem Mo.cells(h:Mo w g o n c L wr){k:Nat}{e:Ent}(he:L[k]? = some e) :
  wr.cell? ⟨g,o+k*2,none⟩=some (.string e.1)/\wr.cell? ⟨g,o+(k*2+1),none⟩=some (.int .u64 e.2)/\wr.frozen? ⟨g,o+k*2,none⟩=false/\wr.frozen? ⟨g,o+(k*2+1),none⟩=false:=by
 have hk:k<n:=by rw[<- h.len];exact(List.getElem?_eq_some_iff.1 he).1
 obtain⟨g1,o1,e1,c1,f1,_⟩:=h.own.setQ (i:=k*2) (by omega) (.int .u8 0);obtain⟨g2,o2,e2,c2,f2,_⟩:=h.own.setQ (i:=k*2+1) (by omega) (.int .u8 0)
 cases e1;cases e2
 exact⟨c1.trans (Ly L k e he).1,c2.trans (Ly L k e he).2,f1,f2⟩
theorem Mo.set(h:Mo w g o n c L wr){k:Nat}(hk:k<n)(e:Ent):Mo w g o n c (L.set k e) ((wr.setCell ⟨g,o+k*2,none⟩ (.string e.1)).setCell ⟨g,o+(k*2+1),none⟩ (.int .u64 e.2)):=by
 obtain⟨g1,o1,e1,_,_,_,h1⟩:=h.own.setQ (i:=k*2) (by omega) (.string e.1)
 cases e1
 obtain⟨g2,o2,e2,_,_,_,h2⟩:=h1.setQ (i:=k*2+1) (by omega) (.int .u64 e.2)
 cases e2
 rw[Q0s]at h2;exact⟨h2,by rw[List.length_set];exact h.len,(h.bel.setCell h.new _).setCell h.new _,h.new⟩
theorem Mo.drewN(h:Mo w g o n c L wr)(q:Nat):Mo w g o n c L (wr.drewN q):=h.next ⟨rfl,rfl,rfl,Nat.le_refl _,fun _ _=>rfl⟩
theorem Mo.drew(h:Mo w g o n c L wr):Mo w g o n c L wr.drew:=h.next ((Below.refl _ _).drew)
theorem Qgd(s t:ByteArray)(p q:Nat):Calls prog 187 #[.agg #[.string s,.int .u64 p],.agg #[.string t,.int .u64 q]] w fun r w'=>r = .returned (.int .i64 (Qze s.toList t.toList))/\Below w.heap.size w w':=by
 have HC:=hid (fun wx:World=>Qru (w:=wx) s t);have HB:=hid (Ze w (.cells #[.string s,.int .u64 p] 171) (.cells #[.string t,.int .u64 q] 171))
 go_enter func187,ntmps187
 go_wp2_with fail
 (with_reducible refine(HC.out _).mono ?_)
 rintro r w' ⟨rfl,rfl⟩;go_wp2_with fail
 go_ret
 exact⟨rfl,HB.out⟩
end
theorem Ql9(a b:List UInt8):(Qze a b<0)↔Op.bytesLess a b=true:=by
 unfold Qze
 split
 ·rename_i h;simp[h]
 ·rename_i h
  split <;> simp[h]
def Cx(S R:List Ent)(e:Ent)(j:Nat):List Ent:=S.take j++e::(S.drop j++R)
theorem Qxt(S R:List Ent)(e:Ent)(j:Nat)(h:j<=S.length):(Cx S R e j)[j]? = some e:=by
 unfold Cx;rw[List.getElem?_append_right (by simp;omega),List.length_take,Nat.min_eq_left h,Nat.sub_self];rfl
theorem Qtd(S R:List Ent)(e x:Ent)(j:Nat)(h:S[j]? = some x):(Cx S R e (j+1))[j]? = some x:=by
 have hj:=(List.getElem?_eq_some_iff.1 h).1;unfold Cx;rw[List.getElem?_append_left (by simp;omega),List.getElem?_take,if_pos (by omega)];exact h
theorem Qn7(S R:List Ent)(e x:Ent)(j:Nat)(h:S[j]? = some x):((Cx S R e (j+1)).set (j+1) x).set j e=Cx S R e j:=by
 obtain⟨hj,hx⟩:=List.getElem?_eq_some_iff.1 h;have e1:S.take (j+1)=S.take j ++ [x]:=by rw[List.take_add_one,h];rfl
 have e2:S.drop j=x::S.drop (j+1):=by rw[List.drop_eq_getElem_cons hj,hx]
 have hl:(S.take j).length=j:=by simp;omega
 unfold Cx;rw[e1,e2];rw[List.append_assoc,List.singleton_append];rw[List.set_append_right _ _ (by omega),hl,Nat.add_sub_cancel_left];rw[List.set_append_right _ _ (by omega),hl,Nat.sub_self]
 rfl
theorem Qhp(S R:List Ent)(e:Ent)(j:Nat)(h:Qj8 S e S.length=j):Cx S R e j=Qhi S e++R:=by
 unfold Cx Qhi;rw[h];simp
section
variable{w:World}
theorem Qsr(g o n c:Nat)(L:List Ent)(w0:World)(h:Mo w0 g o n c L w)(hn:n<=16) :
  Calls prog 233 #[.slice (some ⟨g,o,none⟩) n c,.int .i64 0,.int .i64 n,.func (.func 187) #[] #[]] w fun r w'=>r = .returned (.tuple #[])/\Mo w0 g o n c (Tm L) w'/\Below w0.heap.size w0 w':=by
 have HL:=hid h.len;have H:=hid h;have HC:=hid (fun(wx:World) (a b:Ent)=>Qgd (w:=wx) a.1 b.1 a.2 b.2);have H0:Hid (Tm (L.take 1)++L.drop 1=L):=by
  show _=_
  cases L with
  | nil=>rfl
  | cons e L=>simp[Tm,Qhi,Qj8]
 have HEND:Hid (Tm (L.take n)++L.drop n=Tm L):=by show _=_;rw[List.take_of_length_le (by rw[HL.out];omega),List.drop_eq_nil_of_le (by rw[HL.out];omega),List.append_nil]
 clear h
 go_enter func233,ntmps233
 go_wp2_with fail
 go_loopw [8,9] (fun y _ wr=>∃ i:Nat,1<=i/\(i<=n\/i=1)/\y = .int .i64 i/\Mo w0 g o n c (Tm (L.take i)++L.drop i) wr) (fun y _ _=>n+1-(intOf y).toNat)
 case atStart=>exact⟨1,by omega,.inr rfl,by go_num,by rw[H0.out];exact H.out⟩
 case round=>
  obtain⟨i,hi1,hi2,rfl,hs⟩:=hrel;have S:=hid hs;clear hs
  by_cases hlt:i<n
  ·have hi':(i:Int)<n:=by omega
   obtain⟨e,he⟩:∃ e,L[i]? = some e:=⟨_,List.getElem?_eq_getElem (by rw[HL.out];exact hlt)⟩;obtain⟨T,hT⟩:∃ T,Tm (L.take i)=T:=⟨_,rfl⟩;have hTl:T.length=i:=by rw[<- hT,Kg,List.length_take,HL.out];omega
   have hM0:Tm (L.take i)++L.drop i=Cx T (L.drop (i+1)) e i:=by
    unfold Cx;rw[hT,show T.take i=T from List.take_of_length_le (by omega),show T.drop i = []from List.drop_eq_nil_of_le (by omega)];obtain⟨h1,h2⟩:=List.getElem?_eq_some_iff.1 he;rw[List.drop_eq_getElem_cons h1,h2];rfl
   have HNX:Hid (Qhi T e++L.drop (i+1)=Tm (L.take (i+1))++L.drop (i+1)):=by
    show _=_
    rw[List.take_add_one,he,<- hT];show _=Tm (L.take i ++ [e])++_
    rw[Qp7]
   rw[hM0]at S;have HRL:Hid (T.length+1+(L.drop (i+1)).length=n):=by show _=_;rw[List.length_drop,HL.out,hTl];omega
   obtain⟨R,hR⟩:∃ R,L.drop (i+1)=R:=⟨_,rfl⟩;rw[hR]at HNX HRL S;have HRE:=hid hR;clear hR;have HT:=hid hTl;clear hT hTl hM0 he;go_wp2_with fail
   go_loopw [9] (fun y wr=>∃ j:Nat,j<=i/\y = .int .i64 j/\Mo w0 g o n c (Cx T R e j) wr/\Qj8 T e i=Qj8 T e j) (fun y _=>(intOf y).toNat)
   case atStart=>exact⟨i,Nat.le_refl _,rfl,S.out,rfl⟩
   case round=>
    clear S;obtain⟨j,hj,rfl,hs,hp⟩:=hrel;rename World=>wq
    have S0:=hid hs;have S:=hid (hs.drew);have HP:=hid hp;clear hs hp
    by_cases hj0:j=0
    ·subst hj0
     have HPE:Hid (Cx T R e 0=Qhi T e++R):=Qhp T R e 0 (by rw[HT.out,HP.out];rfl);rw[show((0:Nat):Int)=0 from rfl];go_wp2_with fail
     go_quiet (fail)
     go_wp2_with fail
     go_roundw
     case rel=>exact⟨i+1,by omega,by omega,by go_num,by rw[HRE.out,<- HNX.out,<- HPE.out];exact S0.out.drewN _⟩
     case measure=>simp[intOf];omega
    ·obtain⟨k,rfl⟩:∃ k,j=k+1:=⟨j-1,by omega⟩
     obtain⟨x,hx⟩:∃ x,T[k]? = some x:=⟨_,List.getElem?_eq_getElem (by rw[HT.out];omega)⟩;have hpx:Qj8 T e (k+1)=if ltE e x then Qj8 T e k else k+1:=by
      show(if ltE e (T.getD k e)then _ else _)=_
      rw[List.getD_eq_getElem?_getD,hx];rfl
     have HPX:=hid hpx;have HCM:=hid (fun wx=>HC.out wx e x);have hm1:=Qxt T R e (k+1) (by rw[HT.out];omega);have hm2:=Qtd T R e x k hx;have HSW:=hid (Qn7 T R e x k hx);have hkn:k+1<n:=by have:=HRL.out;have:=HT.out;omega
     have g0:0<k+1:=by omega
     have gw:IntKind.i64.wrap (((k+1:Nat):Int)-1)=((k:Nat):Int):=by rw[show((k+1:Nat):Int)-1=((k:Nat):Int)by omega];exact IntWalk.i64_in _ (by omega)
     obtain⟨y,hy⟩:∃ y,y=k+1:=⟨_,rfl⟩;rw[<- hy]at S HP hm1 g0 gw hkn ⊢;clear S0;have HY:=hid hy;have hyi:((y:Nat):Int)<n:=by omega
     have hki:((k:Nat):Int)<n:=by omega
     have CE:=hid (fun(wx:World) (hw:Mo w0 g o n c (Cx T R e y) wx)=>hw.cells hm1);have CX:=hid (fun(wx:World) (hw:Mo w0 g o n c (Cx T R e y) wx)=>hw.cells (show(Cx T R e y)[k]? = some x by rw[hy];exact hm2));obtain⟨es,ep⟩:=e;obtain⟨xs,xp⟩:=x;simp only at CE CX HCM;clear hm1 hm2 hx hpx hy;go_wp2_with fail
     refine wp_region_held (S:=(fun wx=>Mo w0 g o n c (Cx T R (es,ep) y) wx)) (by kernel_rfl) ?_
     change wpAnyH _ _ _ _ _ _ _ _ (World.drew _)
     refine tkH 0 (.int .i64 (y:Nat)) rfl (fun w _=>by go_simp) S.out ?_
     refine tkH 1 (.int .i64 0) rfl (fun w _=>by go_simp) S.out ?_
     refine tkH 2 (.bool true) rfl (fun w _=>by go_simp) S.out ?_
     refine tkH 3 (.bool true) rfl (fun w _=>by go_simp) S.out ?_
     refine tkH 4 (.func (.func 187) #[] #[]) rfl (fun w _=>by go_simp) S.out ?_
     refine tkH 5 (.slice (some ⟨g,o,none⟩) n c) rfl (fun w _=>by go_simp) S.out ?_
     refine tkH 6 (.int .i64 (y:Nat)) rfl (fun w _=>by go_simp) S.out ?_
     refine tkH 7 (.pointer (some ⟨g,o+y*2,none⟩)) rfl (fun w _=>by go_simp) S.out ?_
     refine tkH 8 (.agg #[.string es,.int .u64 ep]) rfl (fun wx hx=>(by obtain⟨a1,a2,_,_⟩:=CE.out _ hx;rw[<- Nat.add_assoc]at a2;go_simp)) S.out ?_
     refine tkH 9 (.slice (some ⟨g,o,none⟩) n c) rfl (fun w _=>by go_simp) S.out ?_
     refine tkH 10 (.int .i64 (y:Nat)) rfl (fun w _=>by go_simp) S.out ?_
     refine tkH 11 (.int .i64 (k:Nat)) rfl (fun w _=>by go_simp) S.out ?_
     refine tkH 12 (.pointer (some ⟨g,o+k*2,none⟩)) rfl (fun w _=>by go_simp) S.out ?_
     refine tkH 13 (.agg #[.string xs,.int .u64 xp]) rfl (fun wx hx=>(by obtain⟨a1,a2,_,_⟩:=CX.out _ hx;rw[<- Nat.add_assoc]at a2;go_simp)) S.out ?_
     refine onH 14 rfl (fun K hK => ?_);go_simp
     (with_reducible refine(HCM.out _).mono ?_)
     rintro r w5 ⟨rfl,b5⟩;have S5:=hid (S.out.next b5);clear b5
     go_simp;refine hK _ _ ⟨S5.out,?_⟩;clear hK K
     clear S
     by_cases hcl:Qze es.toList xs.toList<0
     ·have HLT:Hid (ltE (es,ep) (xs,xp)=true):=(Ql9 _ _).1 hcl
      refine tkH 15 (.bool true) rfl (fun w _=>by go_simp) S5.out ?_
      refine tkH 16 (.bool true) rfl (fun w _=>by go_simp) S5.out ?_
      refine wpAnyH_done (by kernel_rfl) ?_ _
      clear hcl;obtain⟨a1,a2,a3,a4⟩:=CE.out _ S5.out;obtain⟨b1,b2,b3,b4⟩:=CX.out _ S5.out;rw[<- Nat.add_assoc]at a2 a4 b2 b4;have n1:¬ o+y*2=o+k*2:=by have:=HY.out;omega
      have n2:¬ o+y*2+1=o+k*2:=by have:=HY.out;omega
      have n3:¬ o+y*2=o+k*2+1:=by have:=HY.out;omega
      have n4:¬ o+y*2+1=o+k*2+1:=by have:=HY.out;omega
      have W6:=hid ((S5.out.set (k:=y) (by omega) (xs,xp)).set (k:=k) (by omega) (es,ep));go_wp2_with fail
      go_region
      go_wp2_with fail
      go_roundw
      case rel=>
       refine⟨k,by have:=HY.out;omega,rfl,?_,?_⟩
       ·have h6:=W6.out.drew
        rw[show((Cx T R (es,ep) y).set y (xs,xp)).set k (es,ep)=Cx T R (es,ep) k by rw[HY.out];exact HSW.out]at h6;exact h6
       ·rw[HP.out,HY.out,HPX.out,HLT.out];rfl
      case measure=>simp[intOf];have:=HY.out;omega
     ·have HLT:Hid (ltE (es,ep) (xs,xp)=false):=by
       show ltE _ _=false
       rw[Bool.eq_false_iff];exact fun h=>hcl ((Ql9 _ _).2 h)
      refine tkH 15 (.bool false) rfl (fun w _=>by go_simp) S5.out ?_
      refine tkH 16 (.bool false) rfl (fun w _=>by go_simp) S5.out ?_
      refine wpAnyH_done (by kernel_rfl) ?_ _
      clear hcl;have HPE:Hid (Cx T R (es,ep) y=Qhi T (es,ep)++R):=Qhp T R (es,ep) y (by rw[HT.out,HP.out,HY.out,HPX.out,HLT.out];rfl);go_wp2_with fail
      go_roundw
      case rel=>exact⟨i+1,by omega,by omega,by go_num,by rw[HRE.out,<- HNX.out,<- HPE.out];exact S5.out⟩
      case measure=>simp[intOf];omega
  ·have hi':¬ (i:Int)<n:=by omega
   have HE:Hid (Tm (L.take i)++L.drop i=Tm L):=by show _=_;rw[List.take_of_length_le (by rw[HL.out];omega),List.drop_eq_nil_of_le (by rw[HL.out];omega),List.append_nil]
   go_wp2_with fail
   go_end0
   exact⟨rfl,by rw[<- HE.out];exact S.out,S.out.bel⟩
end
end
section
open Go.Maps
attribute [local go_sem ↓] Go.wp_at_zero Go.wp_at_succ
theorem Qfl:(Tryz.prog.info? 171).map (fun i=>(i.zero,i.size,i.bytes))=some (some (.agg #[.string ⟨#[]⟩,.int .u64 0]),2,24):=by kernel_rfl
section
variable{w:World}
theorem Qss:Calls prog 233 #[.slice none 0 0,.int .i64 0,.int .i64 0,.func (.func 187) #[] #[]] w fun r w'=>r = .returned (.tuple #[])/\w=w':=by
 go_enter func233,ntmps233
 go_wp2_with fail
 go_loopw [8,9] (fun y _ wr=>y = .int .i64 1/\w=wr) (fun _ _ _=>0)
 case atStart=>exact⟨rfl,rfl⟩
 case round=>
  obtain⟨rfl,rfl⟩:=hrel;go_wp2_with fail
  go_end0
  exact⟨rfl,rfl⟩
theorem Qgi:Calls prog 218 #[.slice none 0 0,.int .i64 0,.func (.func 187) #[] #[]] w fun r w'=>r = .returned (.tuple #[])/\w=w':=by
 have HI:=hid (Qss (w:=w))
 go_enter func218,ntmps218
 go_wp2_with fail
 go_loopw [7,8] (fun x y wr=>x = .int .i64 0/\y = .int .i64 20/\w=wr) (fun _ _ _=>0)
 case atStart=>exact⟨rfl,rfl,rfl⟩
 case round=>
  obtain⟨rfl,rfl,rfl⟩:=hrel;go_wp2_with fail
  (with_reducible refine HI.out.mono ?_)
  rintro r w' ⟨rfl,rfl⟩;go_wp2_with fail
  go_loopw [6,7,8,9] (fun x _ _ _ wr=>x = .int .i64 20/\w=wr) (fun _ _ _ _ _=>0)
  case atStart=>exact⟨rfl,rfl⟩
  case round=>
   obtain⟨rfl,rfl⟩:=hrel;go_wp2_with fail
   go_end0
   exact⟨rfl,rfl⟩
theorem Qgh(g o n c:Nat)(L:List Ent)(w0:World)(h:Mo w0 g o n c L w)(hn:n<=16) :
  Calls prog 218 #[.slice (some ⟨g,o,none⟩) n c,.int .i64 n,.func (.func 187) #[] #[]] w fun r w'=>r = .returned (.tuple #[])/\Mo w0 g o n c (Tm L) w'/\Below w0.heap.size w0 w':=by
 have HI:=hid (Qsr g o n c L w0 h hn);have hn20:(n:Int)<20:=by omega
 clear h hn
 go_enter func218,ntmps218
 go_wp2_with fail
 go_loopw [7,8] (fun x y wr=>x = .int .i64 0/\y = .int .i64 20/\w=wr) (fun _ _ _=>0)
 case atStart=>exact⟨rfl,rfl,rfl⟩
 case round=>
  obtain⟨rfl,rfl,rfl⟩:=hrel;go_wp2_with fail
  (with_reducible refine HI.out.mono ?_)
  rintro r w1 ⟨rfl,h1,h2⟩;have HH:=hid (And.intro h1 h2);clear h1 h2;go_wp2_with fail
  go_loopw [6,7,8,9] (fun x _ _ _ wr=>x = .int .i64 20/\w1=wr) (fun _ _ _ _ _=>0)
  case atStart=>exact⟨rfl,rfl⟩
  case round=>
   obtain⟨rfl,rfl⟩:=hrel;go_wp2_with fail
   go_end0
   exact⟨rfl,HH.out⟩
theorem Qel:Calls prog 186 #[.slice none 0 0,.func (.func 187) #[] #[]] w fun r w'=>r = .returned (.tuple #[])/\w=w':=by
 have HI:=hid (Qgi (w:=w))
 go_enter func186,ntmps186
 go_wp2_with fail
 (with_reducible refine HI.out.mono ?_)
 rintro r w' ⟨rfl,rfl⟩;go_wp2_with fail
 go_end0
 exact⟨rfl,rfl⟩
theorem Qek(g o n c:Nat)(L:List Ent)(w0:World)(h:Mo w0 g o n c L w)(hn:n<=16) :
  Calls prog 186 #[.slice (some ⟨g,o,none⟩) n c,.func (.func 187) #[] #[]] w fun r w'=>r = .returned (.tuple #[])/\Mo w0 g o n c (Tm L) w'/\Below w0.heap.size w0 w':=by
 have HI:=hid (Qgh g o n c L w0 h hn);clear h hn
 go_enter func186,ntmps186
 go_wp2_with fail
 (with_reducible refine HI.out.mono ?_)
 rintro r w1 ⟨rfl,h1,h2⟩;have HH:=hid (And.intro h1 h2);clear h1 h2;go_wp2_with fail
 go_end0
 exact⟨rfl,HH.out⟩
end
def Gs(W:Nat->Nat)(e:Nat):List Ent:=((List.range e).filter (Yc W)).map fun e=>(nmS (W (4*e)) (W (4*e+1)),W (4*e+2))
theorem Qmq(W:Nat->Nat)(e:Nat):Gs W (e+1)=if W (4*e+3)=0 then Gs W e else Gs W e ++ [(nmS (W (4*e)) (W (4*e+1)),W (4*e+2))]:=by
 unfold Gs;rw[List.range_succ,List.filter_append,List.map_append]
 by_cases h:W (4*e+3)=0
 ·rw[if_pos h]
  have hu:Yc W e=false:=by simp[Yc,h]
  simp[hu]
 ·rw[if_neg h]
  have hu:Yc W e=true:=by simp[Yc,h]
  simp[hu]
theorem Px(W:Nat->Nat)(e:Nat):(Gs W e).length<=e:=by
 unfold Gs;rw[List.length_map];have:=List.length_filter_le (Yc W) (List.range e);rw[List.length_range]at this;exact this
section
variable{w:World}{v:DV}{own:Nat->Option Qp}{D:Dev}{j b off:Nat}{W:Nat->Nat}
theorem Ta(h:DOn w v own D j b off W):Calls prog 94 #[.pointer (some ⟨b,0,none⟩)] w fun r w'=>∃ ov,r = .returned ov/\Acc w w.heap.size w' 171 2 ov (Gs W 16).length (eC (Tm (Gs W 16))):=by
 obtain⟨i0,hi0,hz0,hz1,hz2⟩:=info_parts Qfl;have I:=hid (And.intro hi0 (And.intro hz0 (And.intro hz1 hz2)));clear hi0 hz0 hz1 hz2
 have H:=hid h;have HIA:=hid (Qaf W);have HSZ:Hid (64=(wsN W).size):=(Qbq W).symm
 have HOA2:Hid ((wsN W).all (·.oneCell')=true):=Cs _;have HLD:=hid h.load;have HIX:=hid (fun(e:Nat) (he:e<16) (wx:World)=>Qso W e he wx);have HNMW:=hid (fun(wx:World) (e:Nat)=>Lc (w:=wx) (W (4*e)) (W (4*e+1)) (W (4*e+2)) (W (4*e+3)) (h.wat.bd _) (h.wat.bd _))
 generalize wsN W=A at *
 clear h
 go_enter func94,ntmps94
 go_wp2_with fail
 (with_reducible refine(H.out.has).mono ?_)
 rintro r w' ⟨rfl,rfl⟩;go_wp2_with fail
 (with_reducible refine HLD.out.mono ?_)
 rintro r w1 ⟨rfl,b1⟩;have B1:=hid b1;clear b1;go_wp2_with (first | (refine wpList_store_row rfl 231 (.tmp 3) (.tmp 15) rfl w1.heap.size A rfl rfl 231 _ (Blk.new w1 _ _) HIA.out HSZ.out HOA2.out ?_;obtain⟨w2,hw2,k2,b2⟩:=Mn w1 _ A;rw[hw2];have X2:Hid (AxB w w1.heap.size A w2):=⟨k2,B1.out.trans (b2.mono B1.out.size)⟩;clear hw2 k2 b2) | (refine wpList_load_row rfl 231 (.tmp 3) rfl w1.heap.size rfl 231 A (0,0) _ X2.out.blk underlying231 rfl HIA.out ?_))
 have A0:Hid (Acc w w.heap.size w2 171 2 (.slice none 0 0) (Gs W 0).length (eC (Gs W 0))):=Acc.nil _ _ _ _ _ X2.out.bel X2.out.bel.size
 go_loopw [5,7,8,9,20] (fun sv _ _ _ y wr=>∃ e:Nat,e<=16/\y = .int .i64 e/\Acc w w.heap.size wr 171 2 sv (Gs W e).length (eC (Gs W e))) (fun _ _ _ _ y _=>16-(intOf y).toNat)
 case atStart=>exact⟨0,by omega,rfl,A0.out⟩
 case round=>
  clear A0 X2;obtain⟨e,he,rfl,ha⟩:=hrel;obtain⟨qa,qc,rfl⟩:=ha.slice;have AA:=hid ha;clear ha
  by_cases hlt:e<16
  ·have he':(e:Int)<16:=by omega
   have hix:=fun wx=>HIX.out e hlt wx
   have hnmw:=fun wx=>HNMW.out wx e
   have hsu:=Qmq W e;have hln:=Px W e;obtain⟨x0,hx0⟩:∃ x,W (4*e)=x:=⟨_,rfl⟩;obtain⟨x1,hx1⟩:∃ x,W (4*e+1)=x:=⟨_,rfl⟩;obtain⟨x2,hx2⟩:∃ x,W (4*e+2)=x:=⟨_,rfl⟩;obtain⟨x3,hx3⟩:∃ x,W (4*e+3)=x:=⟨_,rfl⟩;rw[hx0,hx1,hx2,hx3]at hix hnmw hsu;have hes:enS x0 x1 x3=if x3=0 then⟨#[]⟩else nmS x0 x1:=rfl
   have HSU:=hid hsu;have HLN:=hid hln
   have A1:=hid (AA.out.keep (Qa wr (.cells #[.int .u64 x0,.int .u64 x1,.int .u64 x2,.int .u64 x3] 230)));have K1:=hid (Blk.new wr #[.int .u64 x0,.int .u64 x1,.int .u64 x2,.int .u64 x3] 230);clear hx0 hx1 hx2 hx3 hsu hln AA
   generalize Gs W e=le at *
   by_cases h3:x3=0
   ·rw[show(x3 != 0)=false by simp[h3]]at hnmw
    have HNE:=hid hnmw;have HS2:Hid (Gs W (e+1)=le):=by show _=_;rw[HSU.out,if_pos h3]
    generalize enS x0 x1 x3=es at *
    clear h3 hes hnmw;go_wp2_with fail
    (with_reducible refine(HNE.out _).mono ?_)
    rintro r w' ⟨rfl,b1⟩;have A2:=hid (A1.out.keep b1);clear b1 A1 K1;go_wp2_with fail
    go_roundw
    case rel=>exact⟨e+1,by omega,by go_num,by rw[HS2.out];exact A2.out⟩
    case measure=>simp[intOf];omega
   ·rw[if_neg h3]at hes
    rw[hes,show(x3 != 0)=true by simp[h3]]at hnmw;have HNE:=hid hnmw;have HS2:Hid (Gs W (e+1)=le ++ [(nmS x0 x1,x2)]):=by show _=_;rw[HSU.out,if_neg h3]
    generalize nmS x0 x1=ns at *
    clear h3 hes hnmw;go_wp2_with fail
    (with_reducible refine(HNE.out _).mono ?_)
    rintro r w5 ⟨rfl,b1⟩;have A2:=hid (A1.out.keep b1);have c2:=(K1.out.below b1).cell (i:=2) (v:=.int .u64 x2) rfl;clear b1 A1 K1;go_wp2_with (at_builtin;refine Qc _ rfl _ _ 172 rfl 171 i0 _ 2 24 underlying172 I.out.1 I.out.2.1 I.out.2.2.1 I.out.2.2.2 rfl (by decide) _ le.length (eC le) rfl (by exact A2.out.own.alloc _) _ 1 (eC [(ns,x2)]) rfl (by exact Ql.newAt _ _ _ 2 1 _ (by simp) rfl) (Qmm _) (by unfold maxLen;have:=HLN.out;omega) (by have:=HLN.out;omega) ?_)
    intro v1 w6 o1 g1 n1 m1;have A3:=hid (A2.out.next (m:=1) (Qa w5 _) o1 g1 n1 (by simp));clear o1 g1 n1 m1 A2 c2
    go_wp2_with fail
    go_roundw
    case rel=>exact⟨e+1,by omega,by go_num,by rw[HS2.out,Qml,List.length_append];exact A3.out⟩
    case measure=>simp[intOf];omega
  ·obtain rfl:e=16:=by omega
   have hln:=Px W 16;have hsl:=Kg (Gs W 16)
   generalize hLq:Gs W 16=L at *
   have HLQ:=hid hLq;clear hLq;have HL:=hid (And.intro hln hsl);clear hln hsl
   rcases AA.out.own.2 with ⟨hv,hz⟩ | ⟨g,o,cap,cur,hv,_⟩
   ·have hL:L = []:=List.eq_nil_of_length_eq_zero hz
    subst hL
    cases hv
    have HS:=hid (Qel (w:=wr));go_wp2_with fail
    (with_reducible refine HS.out.mono ?_)
    rintro r w' ⟨rfl,rfl⟩;go_wp2_with fail
    go_ret
    exact⟨.slice none 0 0,rfl,by rw[HLQ.out];exact AA.out⟩
   ·cases hv
    have E0:Hid (Mo w g o L.length qc L wr):=⟨AA.out.own,rfl,AA.out.bel,AA.out.new g rfl⟩;have HS:=hid (Qek (w:=wr) g o L.length qc L w E0.out HL.out.1);clear E0;go_wp2_with fail
    (with_reducible refine HS.out.mono ?_)
    rintro r w5 ⟨rfl,h1,h2⟩;have E1:=hid h1;clear h1 h2;go_wp2_with fail
    go_ret
    exact⟨.slice (some ⟨g,o,none⟩) L.length qc,rfl,by rw[HLQ.out];exact⟨E1.out.own,fun k hk=>by cases hk;exact E1.out.new,E1.out.bel,E1.out.bel.size⟩⟩
end
end

section
open Go.Maps
attribute [local go_sem ↓] Go.wp_at_zero Go.wp_at_succ
def ptV(i:Nat):Nat:=(4096-64*i)/8+4294967296+18014398509481984
theorem Qtv(off:Nat)(ho:off<=34359738360):bits .or .u64 (bits .or .u64 ((off:Int)/8) 4294967296) 18014398509481984=(off/8+4294967296+18014398509481984:Nat):=by
 rw[show((off:Int)/8)=((off/8:Nat):Int)from by omega,show(4294967296:Int)=((4294967296:Nat):Int)from rfl,show(18014398509481984:Int)=((18014398509481984:Nat):Int)from rfl];rw[u64_or_nat _ _ (by omega) (by omega),Nat.or_comm,nat_join 32 4294967296 (off/8) (by decide) (by omega)];rw[u64_or_nat _ _ (by omega) (by omega),Nat.or_comm,nat_join 48 18014398509481984 (4294967296+off/8) (by decide) (by omega)]
 congr 1;omega
theorem Qpp{k k':IntKind}{a b a' b':Int}(h:a=b)(h':a'=b'):Ending.returned (.tuple #[.int k a,.int k' a']) = .returned (.tuple #[.int k b,.int k' b']):=by rw[h,h']
abbrev EnL:=List UInt8×Nat
def toL(e:Ent):EnL:=(e.1.toList,e.2)
def Qpd(S:List EnL)(e:EnL):Nat->Nat
 | 0=>0
 | j+1=>if Op.bytesLess e.1 (S.getD j e).1 then Qpd S e j else j+1
def Qst(S:List EnL)(e:EnL):List EnL:=S.take (Qpd S e S.length)++e::S.drop (Qpd S e S.length)
def Qyt(L:List EnL):List EnL:=L.foldl Qst []
theorem Qx9(S:List Ent)(e:Ent):∀ j,Qj8 S e j=Qpd (S.map toL) (toL e) j:=by
 intro j
 induction j with
 | zero=>rfl
 | succ j ih=>
  have h:((S.map toL).getD j (toL e))=toL (S.getD j e):=by
   simp only[List.getD,List.getElem?_map]
   cases S[j]? <;> rfl
  unfold Qj8 Qpd;rw[h,ih]
  rfl
theorem Qxf(S:List Ent)(e:Ent):(Qhi S e).map toL=Qst (S.map toL) (toL e):=by
 unfold Qhi Qst;rw[List.map_append,List.map_cons,List.map_take,List.map_drop,Qx9,List.length_map]
theorem Qyu(L:List Ent):(Tm L).map toL=Qyt (L.map toL):=by
 unfold Tm Qyt;have:∀ S:List Ent,(L.foldl Qhi S).map toL=(L.map toL).foldl Qst (S.map toL):=by
  induction L with
  | nil=>intro S;rfl
  | cons e L ih=>intro S;rw[List.foldl_cons,ih,Qxf];rfl
 exact this []
def rtW(F:Nat->Int)(i:Nat):Nat:=(F (16+i)).toNat
def rtL(F:Nat->Int):List EnL:=Qyt (((List.range 16).filter (Yc (rtW F))).map fun e=>(nmL (rtW F (4*e)) (rtW F (4*e+1)),rtW F (4*e+2)))
theorem Qvq(F:Nat->Int):(Tm (Gs (rtW F) 16)).map toL=rtL F:=by
 rw[Qyu];unfold rtL Gs;rw[List.map_map]
 congr 1
 refine List.map_congr_left (fun e _ => ?_)
 simp[toL,Qav]
def Q8n(l:List EnL)(e:Bool):Bool:=decide (l = [([97],ptV 1),([98],ptV 2)]) || (!e&&decide (l = [([97],ptV 1)]))
def Q7h(l:List EnL):List EnL:=match l with | [] => [] | x::t=>(x.1,ptV 3)::t
def rtC(F:Nat->Int)(l:List UInt8)(p:Nat)(i:Nat):Int:=Qu (wrO 128 (wrE (rtW F) l p)) (F i) i
def gRt(F:Nat->Int)(e:Bool):Bool:=decide (Bz (rtW F)=0)&&(Q8n (rtL F) e&&(decide (Qch (rtW F) [97] (ptV 3) 4096=0)&&decide (rtL (rtC F [97] (ptV 3))=Q7h (rtL F))))
theorem Q2j{i:Nat}(h1:1<=i)(h3:i<=3){sz:Nat}(hs:4096<=sz):Qyc (ptV i) sz=true:=by
 obtain rfl | rfl | rfl:i=1\/i=2\/i=3:=by omega
 all_goals
  unfold Qyc ptV;simp;omega
theorem Qmv(W:Nat->Nat)(l:List UInt8){i:Nat}(h1:1<=i)(h3:i<=3){sz:Nat}(hs:4096<=sz):Ry W l (ptV i) sz=Ry W l (ptV i) 4096:=by
 unfold Ry;rw[Q2j h1 h3 hs,Q2j h1 h3 (Nat.le_refl _)]
theorem Qu3(W:Nat->Nat)(l:List UInt8){i:Nat}(h1:1<=i)(h3:i<=3){sz:Nat}(hs:4096<=sz):Qch W l (ptV i) sz=Qch W l (ptV i) 4096:=by
 unfold Qch;rw[Qmv W l h1 h3 hs]
section
variable{w:World}{v:DV}{own:Nat->Option Qp}{D:Dev}{g n x:Nat}{C F:Nat->Int}
theorem Eq(off:Nat)(h0:0<off)(h8:off%8=0)(ho:off<=34359738360) :
  Calls prog 73 #[.int .u64 off,.int .u16 1,.int .u8 64] w fun r w'=>r = .returned (.tuple #[.int .u64 (off/8+4294967296+18014398509481984:Nat),.int .i64 0])/\w=w':=by
 have b1:((off:Int)==0)=false:=by simp;omega
 have b2:((off:Int)%8 != 0)=false:=by simp;omega
 have b3:¬ (34359738360:Int)<off:=by omega
 go_enter func73,ntmps73
 go_wp2
 go_ret2
 exact⟨Qpp (Qtv off ho) rfl,rfl⟩
def Mt(w:World)(g:Nat):Prop:=Blk w g #[.func (.func 87) #[] #[]] 167
theorem Mt.below{w':World}(h:Mt w g)(hb:Below w.heap.size w w'):Mt w' g:=Blk.below h hb
theorem Mt.cell(h:Mt w g):w.cell? ⟨g,0,none⟩=some (.func (.func 87) #[] #[]):=Blk.cell h rfl
theorem Mt.above{w':World}{B:Nat}(h:Mt w g)(hb:Below B w w')(h0:g<B):Mt w' g:=(hb.block g h0).trans h
theorem Bv(i:Nat)(h1:1<=i)(h3:i<=3):Calls prog 87 #[.int .u64 i] w fun r w'=>r = .returned (.int .u64 (ptV i))/\w=w':=by
 have H:Hid (Calls prog 73 #[.int .u64 (4096-64*(i:Int)),.int .u16 1,.int .u8 64] w fun r w'=>r = .returned (.tuple #[.int .u64 (ptV i),.int .i64 0])/\w=w'):=hid (by
  have:=Eq (w:=w) (4096-64*i) (by omega) (by omega) (by omega)
  rwa [show((4096-64*i:Nat):Int)=4096-64*(i:Int)by omega]at this)
 have g1:IntKind.u64.wrap (64*(i:Int))=64*(i:Int):=IntWalk.u64_in _ (by omega);have g2:IntKind.u64.wrap (4096-64*(i:Int))=4096-64*(i:Int):=IntWalk.u64_in _ (by omega)
 go_enter func87,ntmps87
 go_wp2_with fail
 (with_reducible refine H.out.mono ?_)
 rintro r w1 ⟨rfl,rfl⟩;go_wp2_with fail
 go_ret
 exact⟨rfl,rfl⟩
theorem SCl.wat(h:SCl D 0 n F x)(hn:64<=n):WAt D 128 (rtW F) where
 at8:=rfl
 fit:=by rw[h.grp.on.n];omega
 cur:=fun i _=>by
  rw[h.cur];unfold rtW;have:=h.bd (16+i);show F (16+i)=_
  omega
 bd:=fun i=>by have:=h.bd (16+i);unfold rtW;omega
theorem Que:(⟨#[97]⟩:ByteArray).toList = [97]:=ByteArray.toList_mk _
theorem Qyx:(⟨#[98]⟩:ByteArray).toList = [98]:=ByteArray.toList_mk _
theorem Qpt(h:SCl D 0 n F x)(hn:64<=n)(l:List UInt8)(p sz:Nat)(he:Ry (rtW F) l p sz=0)(hp:p<18446744073709551616):SCl (D.run 0 (Yt 128 (rtW F) l p)) 0 n (rtC F l p) (x+9):=by
 have hin:=Qqr (rtW F) l p sz he hp;have:=h.stores (ws:=wrO 128 (wrE (rtW F) l p)) (fun e he=>by
  obtain⟨e',he',rfl⟩:=List.mem_map.1 he;have:=hin e' he';exact⟨by simp only;omega,by simp only;omega⟩) (fun e he=>by
  obtain⟨e',he',rfl⟩:=List.mem_map.1 he;have:=hin e' he';exact⟨by simp only;omega,by simp only;omega⟩)
 exact this.mono (by have:=Qdh 128 (rtW F) l p;unfold Yt at this;omega)
def rtZ(i:Nat):Int:=Qu (Py 128) 0 i
def Gg:List (Nat×Nat×Int):=Qct 128++Yt 128 (rtW rtZ) [97] (ptV 1)
theorem Qyn:Bz (rtW rtZ)=0:=by kernel_rfl
theorem Qps:Qch (rtW rtZ) [97] (ptV 1) 4096=0:=by kernel_rfl
theorem Is{W:Nat->Nat}{l:List UInt8}{p sz:Nat}(h:Qch W l p sz=0):Ry W l p sz=0:=by
 unfold Qch at h
 split at h
 ·cases h
 ·split at h
  ·cases h
  ·exact h
theorem Cd(i:Nat):ptV i<18446744073709551616:=by unfold ptV;omega
theorem Qvr(h:SCl D 0 n (fun _=>0) x)(hn:64<=n):SCl (D.run 0 (Qct 128)) 0 n rtZ (x+33):=by
 have:=h.stores (ws:=Py 128) (fun e he=>by
  obtain⟨k,hk,rfl⟩:=List.mem_map.1 he;have:=List.mem_range.1 hk;exact⟨by simp only;omega,by simp only;omega⟩) (fun e he=>by
  obtain⟨k,hk,rfl⟩:=List.mem_map.1 he;simp)
 exact this.mono (by have:=Qhb 128;unfold Qct at this;omega)
theorem SCl.don(h:SCl D 0 n F x)(hn:64<=n)(hd:IsDev w v own D){b:Nat}(hb:Yg w b 128 (.iface 40 (.pointer (some ⟨v.tb 0,0,none⟩)))):DOn w v own D 0 b 128 (rtW F):=
 ⟨hd,by omega,hb,h.grp.on.off,h.grp.on.err,h.wat hn⟩
theorem Lb(hN:Nib w)(hd:IsDev w v own D)(h:SCl D 0 n F x)(hn:64<=n):Calls prog 62 #[(.iface 40 (.pointer (some ⟨v.tb 0,0,none⟩))),.int .i64 2] w (Q5v w v 0 128 (rtW F)):=by
 have:=Qkk hd hN (j:=0) (by omega) 2 h.grp.on.off h.grp.on.err (h.wat hn);exact this
theorem Qon{B:Nat}(hN:Nib w)(hg:Mt w g)(P:Pst B w v D own w)(h0:0<B)(h1:g<B)(hS:SCl D 0 n (fun _=>0) x)(hn:64<=n)(hx:x<=1000) :
  Calls prog 88 #[(.iface 40 (.pointer (some ⟨v.tb 0,0,none⟩))),.pointer (some ⟨g,0,none⟩)] w fun r w'=>r = .returned (.int .i64 0)/\∃ own',Pst B w v (D.run 0 Gg) own' w':=by
 have hdn:D.n=n:=hS.grp.on.n;have hex:=hS.exec;have hS1:=Qvr hS hn;have hrr:Qch (rtW rtZ) [97] (ptV 1) (64*n)=0:=by rw[Qu3 _ _ (by omega) (by omega) (by omega)];exact Qps
 have hS2:=Qpt hS1 hn [97] (ptV 1) _ (Is hrr) (Cd 1);have H1:Hid (Calls prog 89 #[(.iface 40 (.pointer (some ⟨v.tb 0,0,none⟩))),.int .i64 2] w fun r w'=>r = .returned (.int .i64 0)/\∃ own1,Pst B w v (D.run 0 (Qct 128)) own1 w'):=hid ((Qdq P.dev (j:=0) (by omega) 2 (by omega) hS.grp.on.err (by omega)).mono fun r w' hp=>⟨by rw[hp.1];show Ending.returned (.int .i64 ((D.run 0 (Qct 128)).err 0))=_;rw[hS1.grp.on.err],P.post hp.2⟩);have H2:Hid (∀ w1 own1,Pst B w v (D.run 0 (Qct 128)) own1 w1->Calls prog 62 #[(.iface 40 (.pointer (some ⟨v.tb 0,0,none⟩))),.int .i64 2] w1 fun r w'=>r = .returned (.tuple #[.pointer (some ⟨w1.heap.size,0,none⟩),.int .i64 0])/\Yg w' w1.heap.size 128 (.iface 40 (.pointer (some ⟨v.tb 0,0,none⟩)))/\Below w1.heap.size w1 w'):=hid (fun w1 own1 P1=>by
  refine(Lb (hN.above P1.bel h0) P1.dev hS1 hn).mono ?_
  rintro r w' (⟨k,_⟩ | ⟨_,k⟩)
  ·exact absurd Qyn k
  ·exact k)
 have HP:Hid (∀ wx,Calls prog 87 #[.int .u64 1] wx fun r w'=>r = .returned (.int .u64 (ptV 1:Nat))/\wx=w'):=hid (fun wx=>Bv (w:=wx) 1 (by omega) (by omega));have H3:Hid (∀ w1 own1 b,Pst B w v (D.run 0 (Qct 128)) own1 w1->Yg w1 b 128 (.iface 40 (.pointer (some ⟨v.tb 0,0,none⟩)))->Calls prog 90 #[.pointer (some ⟨b,0,none⟩),.string ⟨#[97]⟩,.int .u64 (ptV 1:Nat)] w1 fun r w'=>r = .returned (.int .i64 0)/\∃ own',Pst B w v (D.run 0 Gg) own' w'):=hid (fun w1 own1 b P1 hb=>by
  refine(Qdr (hS1.don hn P1.dev hb) (hN.above P1.bel h0) ⟨#[97]⟩ (ptV 1) (Cd 1) (by have:=hS1.exec;omega)).mono ?_
  rw[Que,hS1.grp.on.n,hrr];rintro r w' (⟨k,_⟩ | ⟨_,rfl,d⟩)
  ·exact absurd rfl k
  ·rw[hS2.grp.on.err]
   have:=P1.post d;unfold Gg;rw[Dev.run_append];exact⟨rfl,this⟩)
 have HG:Hid (∀ w1 own1,Pst B w v (D.run 0 (Qct 128)) own1 w1->Mt w1 g):=hid (fun w1 own1 P1=>hg.above P1.bel h1);clear hN hg P h0 h1 hS hn hx hdn hex hS1 hrr hS2
 go_enter func88,ntmps88
 go_wp2_with fail
 (with_reducible refine H1.out.mono ?_)
 rintro r w1 ⟨rfl,own1,p1⟩;have P1:=hid p1;have HO:=hid (H2.out w1 own1 p1);clear p1 H1 H2;go_wp2_with fail
 (with_reducible refine HO.out.mono ?_)
 rintro r w2 ⟨rfl,d2,b2⟩;have P2:=hid (P1.out.next b2);have H4:=hid (H3.out w2 own1 _ P2.out d2);have c0:=(HG.out w2 own1 P2.out).cell;clear d2 b2 HO H3;go_wp2_with fail
 (with_reducible refine(HP.out _).mono ?_)
 rintro r w3 ⟨rfl,rfl⟩;go_wp2_with fail
 (with_reducible refine H4.out.mono ?_)
 rintro r w4 ⟨rfl,p4⟩;have P4:=hid p4;clear p4
 go_wp2_with fail
 go_ret
 exact⟨rfl,P4.out⟩
theorem Qoo(hN:Nib w)(hg:Mt w g)(h:IsDev w v own D)(hS:SCl D 0 n C x)(hn:64<=n)(ho:Bz (rtW C)=0)(he:Ry (rtW C) [98] (ptV 2) 4096=0) :
  Calls prog 91 #[(.iface 40 (.pointer (some ⟨v.tb 0,0,none⟩))),.pointer (some ⟨g,0,none⟩)] w fun r w'=>∃ sv,r = .returned (.tuple #[sv,.int .i64 0])/\Acc w w.heap.size w' 73 3 sv (Yt 128 (rtW C) [98] (ptV 2)).length (Qd (Yt 128 (rtW C) [98] (ptV 2))):=by
 have H2:Hid (Calls prog 62 #[(.iface 40 (.pointer (some ⟨v.tb 0,0,none⟩))),.int .i64 2] w fun r w'=>r = .returned (.tuple #[.pointer (some ⟨w.heap.size,0,none⟩),.int .i64 0])/\Yg w' w.heap.size 128 (.iface 40 (.pointer (some ⟨v.tb 0,0,none⟩)))/\Below w.heap.size w w'):=hid (by
  refine(Lb hN h hS hn).mono ?_
  rintro r w' (⟨k,_⟩ | ⟨_,k⟩)
  ·exact absurd ho k
  ·exact k)
 have HP:Hid (∀ wx,Calls prog 87 #[.int .u64 2] wx fun r w'=>r = .returned (.int .u64 (ptV 2:Nat))/\wx=w'):=hid (fun wx=>Bv (w:=wx) 2 (by omega) (by omega));have H3:Hid (∀ w1 b,Below w.heap.size w w1->Yg w1 b 128 (.iface 40 (.pointer (some ⟨v.tb 0,0,none⟩)))->Calls prog 63 #[.pointer (some ⟨b,0,none⟩),.string ⟨#[98]⟩,.int .u64 (ptV 2:Nat)] w1 fun r w'=>∃ sv,r = .returned (.tuple #[sv,.int .i64 0])/\Acc w1 w1.heap.size w' 73 3 sv (Yt 128 (rtW C) [98] (ptV 2)).length (Qd (Yt 128 (rtW C) [98] (ptV 2)))):=hid (fun w1 b hb hd=>by
  have:=La (hS.don hn (h.below hb) hd) (hN.below hb) ⟨#[98]⟩ (ptV 2) (Cd 2);unfold Q5w at this;rw[Qyx,hS.grp.on.n,Qmv _ _ (by omega) (by omega) (by omega),he]at this;refine this.mono ?_
  rintro r w' (⟨k,_⟩ | ⟨_,k⟩)
  ·exact absurd rfl k
  ·exact k)
 have HG:=hid (fun(w1:World) (hb:Below w.heap.size w w1)=>(hg.below hb).cell);clear hN hg h hS hn ho he
 go_enter func91,ntmps91
 go_wp2_with fail
 (with_reducible refine H2.out.mono ?_)
 rintro r w2 ⟨rfl,d2,b2⟩;have B2:=hid b2;have H4:=hid (H3.out w2 _ b2 d2);have c0:=HG.out w2 b2;clear d2 b2 H2 H3;go_wp2_with fail
 (with_reducible refine(HP.out _).mono ?_)
 rintro r w3 ⟨rfl,rfl⟩;go_wp2_with fail
 (with_reducible refine H4.out.mono ?_)
 rintro r w4 ⟨sv,rfl,a4⟩;have A4:=hid (a4.deeper B2.out);clear a4
 go_wp2_with fail
 go_ret2
 exact⟨_,rfl,A4.out⟩
end
end
end Go.Proofs.YtlhchkajjpefmaaGreatDoor
