/- Lemmas and walks, part 25: each theorem says what it proves; no condition beside its own. -/
import Derived.Test.YtlhchkajjpefmaaGreatDoorK24
set_option maxHeartbeats 16000000
set_option maxRecDepth 100000
namespace Go.Proofs.YtlhchkajjpefmaaGreatDoor
open Lib(hid)
open Go.RowKit Go.Proofs.Tryz
section
theorem Qvl{a b:Bool}(h:a=b):Ending.returned (.bool a) = .returned (.bool b):=by rw[h]
theorem Qyy(s:ByteArray)(k:Nat)(h:k<s.size):(s[k]'h).toNat=(s.toList.getD k 0).toNat:=by
 rw[ByteArray.toList_eq,List.getD_eq_getElem?_getD,List.getElem?_eq_getElem (by rw[<- Lib.size_eq];exact h)]
 rfl
theorem Cn(s:ByteArray):s.toList.length=s.size:=by rw[ByteArray.toList_eq,<- Lib.size_eq]
section
variable{w:World}
theorem Qds(b:Nat):Calls prog 204 #[.int .u8 b] w fun r w'=>r = .returned (.bool (Qxl b))/\w=w':=by
 have hl:Qxl b=(((decide ((65:Int)<=b))&&(decide ((b:Int)<=90))) || ((decide ((97:Int)<=b))&&(decide ((b:Int)<=122)))):=by
  unfold Qxl;rw[Bool.eq_iff_iff];simp;omega
 rw[hl];clear hl
 by_cases h1:(65:Int)<=b
 ·by_cases h2:(b:Int)<=90
  ·go_enter func204,ntmps204
   go_wp2_with fail
   go_ret
   exact⟨Qvl (by simp[h1,h2]),rfl⟩
  ·by_cases h3:(97:Int)<=b
   ·by_cases h4:(b:Int)<=122
    ·go_enter func204,ntmps204
     go_wp2_with fail
     go_ret
     exact⟨Qvl (by simp),rfl⟩
    ·go_enter func204,ntmps204
     go_wp2_with fail
     go_ret
     exact⟨Qvl (by simp[h2,h4]),rfl⟩
   ·go_enter func204,ntmps204
    go_wp2_with fail
    go_ret
    exact⟨Qvl (by simp[h2];omega),rfl⟩
 ·have h3:¬ (97:Int)<=b:=by omega
  go_enter func204,ntmps204
  go_wp2_with fail
  go_ret
  exact⟨Qvl (by simp;omega),rfl⟩
theorem Dt(p:Nat):Calls prog 184 #[.int .u64 p] w fun r w'=>r = .returned (.bool (p==0))/\w=w':=by
 have hl:(p==0)=((p:Int)==0):=by rw[Bool.eq_iff_iff];simp
 rw[hl];clear hl
 go_enter func184,ntmps184
 go_wp2_with fail
 go_ret
 exact⟨rfl,rfl⟩
theorem Qjf(s:ByteArray):Calls prog 219 #[.string s] w fun r w'=>r = .returned (.bool false)/\w=w':=by
 have h:(s.toList==s.toList)=true:=beq_self_eq_true _
 go_enter func219,ntmps219
 go_wp2_with fail
 go_ret
 exact⟨rfl,rfl⟩
def Qza(l:List UInt8)(k:Nat):Prop:=∀ j,j<k->Qa5 (l.getD j 0).toNat=true
def Qze(a b:List UInt8):Int:=if Op.bytesLess a b then -1 else if a==b then 0 else 1
theorem Qru(s t:ByteArray):Calls prog 188 #[.string s,.string t] w fun r w'=>r = .returned (.int .i64 (Qze s.toList t.toList))/\w=w':=by
 have HN:=hid (fun(wx:World) x=>Qjf (w:=wx) x);unfold Qze
 cases h1:Op.bytesLess s.toList t.toList
 ·cases h2:s.toList==t.toList
  ·go_enter func188,ntmps188
   go_wp2_with (go_at_call 219;(with_reducible refine(HN.out _ _).mono ?_);rintro e w' ⟨rfl,rfl⟩)
   go_ret
   exact⟨rfl,rfl⟩
  ·go_enter func188,ntmps188
   go_wp2_with (go_at_call 219;(with_reducible refine(HN.out _ _).mono ?_);rintro e w' ⟨rfl,rfl⟩)
   go_ret
   exact⟨rfl,rfl⟩
 ·go_enter func188,ntmps188
  go_wp2_with (go_at_call 219;(with_reducible refine(HN.out _ _).mono ?_);rintro e w' ⟨rfl,rfl⟩)
  go_ret
  exact⟨rfl,rfl⟩
theorem Nz(s:ByteArray):Calls prog 152 #[.string s] w fun r w'=>r = .returned (.bool (Vt s.toList))/\w=w':=by
 have HL:=hid (fun(wx:World) b=>Qds (w:=wx) b);have hlen:=Cn s
 by_cases h0:s.size=0
 ·have hn:s.toList = []:=List.eq_nil_of_length_eq_zero (by omega)
  have hq:s.toList.isEmpty=true:=by rw[hn];rfl
  rw[show Vt s.toList=false by rw[hn];rfl];clear hlen h0 hn
  go_enter func152,ntmps152
  go_wp2_with fail
  go_ret
  exact⟨rfl,rfl⟩
 ·have hq:s.toList.isEmpty=false:=by
   rw[Bool.eq_false_iff];intro h;rw[List.isEmpty_iff]at h;rw[h]at hlen;simp at hlen;omega
  by_cases h16:s.size<=16
  ·have h16':¬ (16:Int)<s.size:=by omega
   have p0:0<s.size:=by omega
   have hg:=fun k h=>Qyy s k h
   have HG:=hid hg
   cases hb0:Qxl (s[0]'p0).toNat
   ·rw[show Vt s.toList=false by unfold Vt;rw[<- hg 0 p0,hb0];simp]
    clear hlen h16 hg
    go_enter func152,ntmps152
    go_wp2_with fail
    (with_reducible refine(HL.out _ _).mono ?_)
    rintro e w' ⟨rfl,rfl⟩;go_wp2_with fail
    go_ret
    exact⟨rfl,rfl⟩
   ·have KEY:Hid (∀ b:Bool,(b=true↔Qza s.toList s.size)->b=Vt s.toList):=fun b hb=>by
     unfold Vt;rw[<- hg 0 p0,hb0,Bool.eq_iff_iff,hb];simp only[Bool.and_true,Bool.and_eq_true,decide_eq_true_eq,List.all_eq_true]
     constructor
     ·intro h
      refine⟨by omega,fun x hx => ?_⟩
      obtain⟨j,hj,rfl⟩:=List.getElem_of_mem hx;have:=h j (by omega);rw[List.getD_eq_getElem?_getD,List.getElem?_eq_getElem hj]at this;exact this
     ·intro h j hj
      rw[List.getD_eq_getElem?_getD,List.getElem?_eq_getElem (by omega)];exact h.2 _ (List.getElem_mem _)
    clear hlen hg
    go_enter func152,ntmps152
    go_wp2_with fail
    (with_reducible refine(HL.out _ _).mono ?_)
    rintro e w' ⟨rfl,rfl⟩;go_wp2_with fail
    go_loopw [19] (fun y wr=>∃ k:Nat,k<=s.size/\y = .int .i64 k/\w=wr/\Qza s.toList k) (fun y _=>s.size-(intOf y).toNat)
    case atStart=>exact⟨0,by omega,rfl,rfl,fun j hj=>by omega⟩
    case round=>
     obtain⟨k,hk,rfl,rfl,ho⟩:=hrel;have HO:=hid ho;clear ho
     by_cases hlt:k<s.size
     ·have hk':(k:Int)<s.size:=by omega
      obtain⟨c,hc⟩:∃ c:Nat,(s[k]'hlt).toNat=c:=⟨_,rfl⟩;have hcl:(s.toList.getD k 0).toNat=c:=by rw[<- HG.out k hlt];exact hc
      have HR:Hid (Qa5 c=true->Qza s.toList (k+1)):=fun h j hj=>by
       by_cases e:j=k
       ·subst e;rw[hcl];exact h
       ·exact HO.out j (by omega)
      have HF:Hid (Qa5 c=false->Vt s.toList=false):=fun h=>by
       symm
       refine KEY.out false ⟨fun h2=>by simp at h2,fun h2 => ?_⟩
       have:=h2 k hlt;rw[hcl,h]at this;exact this
      unfold Qa5 at HR HF;clear hcl
      cases hlc:Qxl c
      ·by_cases h95:(c:Int)=95
       ·have q95:((c:Int) != 95)=false:=by simpa using h95
        have HR2:Hid (Qza s.toList (k+1)):=HR.out (by rw[hlc,show c=95 by omega];rfl);clear h95 HR HF;go_wp2_with fail
        (with_reducible refine(HL.out _ _).mono ?_)
        rintro e w' ⟨rfl,rfl⟩;go_wp2_with fail
        go_roundw
        case rel=>exact⟨k+1,by omega,by go_num,trivial,HR2.out⟩
        case measure=>simp[intOf];omega
       ·have q95:((c:Int) != 95)=true:=by simpa using h95
        by_cases h48:(c:Int)<48
        ·have HF2:Hid (Vt s.toList=false):=HF.out (by rw[hlc];simp;omega)
         clear h95 HR HF;go_wp2_with fail
         (with_reducible refine(HL.out _ _).mono ?_)
         rintro e w' ⟨rfl,rfl⟩;go_wp2_with fail
         go_ret
         exact⟨Qvl HF2.out.symm,rfl⟩
        ·by_cases h57:(57:Int)<(c:Int)
         ·have HF2:Hid (Vt s.toList=false):=HF.out (by rw[hlc];simp;omega)
          clear h95 HR HF;go_wp2_with fail
          (with_reducible refine(HL.out _ _).mono ?_)
          rintro e w' ⟨rfl,rfl⟩;go_wp2_with fail
          go_ret
          exact⟨Qvl HF2.out.symm,rfl⟩
         ·have HR2:Hid (Qza s.toList (k+1)):=HR.out (by rw[hlc];simp;omega)
          clear h95 HR HF;go_wp2_with fail
          (with_reducible refine(HL.out _ _).mono ?_)
          rintro e w' ⟨rfl,rfl⟩;go_wp2_with fail
          go_roundw
          case rel=>exact⟨k+1,by omega,by go_num,trivial,HR2.out⟩
          case measure=>simp[intOf];omega
      ·have HR2:Hid (Qza s.toList (k+1)):=HR.out (by rw[hlc];rfl)
       clear HR HF;go_wp2_with fail
       (with_reducible refine(HL.out _ _).mono ?_)
       rintro e w' ⟨rfl,rfl⟩;go_wp2_with fail
       go_roundw
       case rel=>exact⟨k+1,by omega,by go_num,trivial,HR2.out⟩
       case measure=>simp[intOf];omega
     ·have hke:k=s.size:=by omega
      have hnk:¬ (k:Int)<s.size:=by omega
      have HT:Hid (true=Vt s.toList):=KEY.out true ⟨fun _=>by rw[<- hke];exact HO.out,fun _=>rfl⟩;clear hke hlt;go_wp2_with fail
      go_ret
      exact⟨Qvl HT.out,rfl⟩
  ·have h16':(16:Int)<s.size:=by omega
   rw[show Vt s.toList=false by unfold Vt;simp[hlen];omega];clear hlen h0 h16
   go_enter func152,ntmps152
   go_wp2_with fail
   go_ret
   exact⟨rfl,rfl⟩
end
end
section
open Go.Maps
attribute [local go_sem ↓] Go.wp_at_zero Go.wp_at_succ
def bI(l:List UInt8)(j:Nat):Int:=((l.getD j 0).toNat:Nat)
theorem Q5z(l:List UInt8)(j:Nat):0<=bI l j/\bI l j<256:=by
 unfold bI;have:=(l.getD j 0).toNat_lt;omega
theorem Q7y(l:List UInt8)(d:Nat):∀ r,8*d+r<=l.length->wv (bI l) d r=(pkN ((l.drop (8*d)).take r):Nat):=by
 intro r
 induction r with
 | zero=>intro _;simp[wv,pkN]
 | succ r ih=>
  intro h;have e:(l.drop (8*d)).take (r+1)=(l.drop (8*d)).take r ++ [l.getD (8*d+r) 0]:=by
   rw[List.take_add_one,List.getElem?_drop,List.getElem?_eq_getElem (by omega),List.getD_eq_getElem?_getD,List.getElem?_eq_getElem (by omega)]
   rfl
  rw[e,Qhw];simp only[wv];rw[ih (by omega)];have hl:((l.drop (8*d)).take r).length=r:=by simp;omega
  rw[hl,Int.natCast_add,Int.natCast_mul];unfold bI
  congr 2
  rw[show(256:Nat)=2 ^ 8 from rfl,<- Nat.pow_mul,Nat.mul_comm 8 r];simp
theorem Qid(l:List UInt8)(d:Nat):Zy (bI l) l.length d=(pkN ((l.drop (8*d)).take 8):Nat):=by
 unfold Zy
 by_cases h:8*d<=l.length
 ·rw[Q7y l d _ (by omega)]
  by_cases h8:8<=l.length-8*d
  ·rw[Nat.min_eq_left h8]
  ·rw[Nat.min_eq_right (by omega),List.take_of_length_le (by simp),List.take_of_length_le (by simp;omega)]
 ·rw[show min 8 (l.length-8*d)=0 by omega,List.drop_eq_nil_of_le (by omega)]
  rfl
section
variable{w:World}
theorem Pl(n:Nat)(hn:n<=1000):Calls prog 223 #[.int .i64 n] w fun r w'=>r = .returned (.int .i64 (((n+7)/8:Nat):Int))/\w=w':=by
 by_cases h:n%8=0
 ·have h1:((n:Int)%8 != 0)=false:=by simp;omega
  have h2:(n:Int)/8=((n+7)/8:Nat):=by omega
  clear h
  generalize (n+7)/8=m at *
  go_enter func223,ntmps223
  go_wp2_with fail
  go_ret
  exact⟨rfl,rfl⟩
 ·have h1:((n:Int)%8 != 0)=true:=by simp;omega
  have h2:(n:Int)/8=((n/8:Nat):Int):=by omega
  have h3:((n/8:Nat):Int)+1=(((n+7)/8:Nat):Int):=by omega
  have h4:n/8<=1000:=by omega
  clear h
  generalize (n+7)/8=m at *
  generalize n/8=q at *
  go_enter func223,ntmps223
  go_wp2_with fail
  go_ret
  exact⟨rfl,rfl⟩
theorem Qqp(sv:Value)(l:List UInt8)(h:Ql w 1 sv l.length ((List.range l.length).map fun i => .int .u8 (bI l i)))(hl:l.length<=16) :
  Calls prog 251 #[sv] w fun r w'=>r = .returned (.slice (some ⟨w.heap.size,0,none⟩) ((l.length+7)/8) ((l.length+7)/8))/\Row w' w.heap.size ((l.length+7)/8) 31 (fun i => .int .u64 (Zy (bI l) l.length i))/\Below w.heap.size w w':=by
 obtain⟨_,sa,sc,rfl,hsc,h2⟩:=h;have HW:=hid (fun(wx:World)=>Pl (w:=wx) l.length (by omega));have HB:=hid (Q5z l)
 generalize bI l=b at *
 generalize l.length=N at *
 have HR:=hid h2;clear h2
 obtain⟨m,hm⟩:∃ m,(N+7)/8=m:=⟨_,rfl⟩;rw[hm]at HW ⊢;have hmk:=fun(wx:World)=>Qfv wx m (by omega)
 have hNb:N<=16:=hl;have HM:=hid hm;clear hm hl
 have M0:=hid (Ig.start (w:=w) b m)
 go_enter func251,ntmps251
 go_wp2_with fail
 (with_reducible refine(HW.out _).mono ?_)
 rintro e w' ⟨rfl,rfl⟩;go_wp2_with fail
 go_loopw [4,5,12] (fun _ _ y wr=>∃ k:Nat,k<=N/\y = .int .i64 k/\Ig w b m k wr) (fun _ _ y _=>N-(intOf y).toNat)
 case atStart=>exact⟨0,by omega,rfl,M0.out⟩
 case round=>
  obtain⟨k,hk,rfl,hM⟩:=hrel;have M:=hid hM;clear M0
  by_cases hlt:k<N
  ·have hlt':(k:Int)<N:=by omega
   have hsz:w.heap.size<wr.heap.size:=hM.row.lt;obtain⟨d,hd⟩:∃ d,k/8=d:=⟨_,rfl⟩;obtain⟨r,hr⟩:∃ r,k%8=r:=⟨_,rfl⟩;have hf1:=hM.row.frozen d;have q6:(k:Int)/8=d:=by omega
   have q7:(k:Int)%8=r:=by omega
   have hdn:(d:Int)<m:=by have:=HM.out;omega
   have hr8:r<8:=by omega
   have hcell:=hM.row.cell (i:=d) (by omega);have hx:((List.range N).map fun i=>Value.int .u8 (b i))[k]? = some (.int .u8 (b k)):=by rw[List.getElem?_map,List.getElem?_range hlt];rfl
   obtain⟨bb,o,rfl,h3⟩:=Zr HR.out hx;have c1:=(hM.bel.cell (p:=⟨bb,o+k,none⟩) (World.block_lt_of_cell? _ _ (h3 k _ hx))).trans (h3 k _ hx);obtain⟨hb1,hb2⟩:=HB.out k;have hor:bits BinOp.or IntKind.u64 (Zy b k d) (IntKind.u64.wrap (b k*2 ^ (r*8)))=Zy b k d+b k*2 ^ (r*8):=by
    have e1:Zy b k d=wv b d r:=by unfold Zy;rw[show min 8 (k-8*d)=r by omega]
    have e2:=Q3t b d r (fun j hj=>HB.out _);rw[e1];obtain⟨a,ha⟩:∃ a:Nat,wv b d r=a:=⟨_,(Int.toNat_of_nonneg e2.1).symm⟩;obtain⟨x,hx⟩:∃ x:Nat,b k=x:=⟨_,(Int.toNat_of_nonneg hb1).symm⟩;rw[ha,hx];refine Qo2 a x r ?_ (by omega) hr8
    have e3:((2:Int) ^ (r*8))=((2 ^ (r*8):Nat):Int):=by simp
    rw[ha,e3]at e2;omega
   have HO:=hid hor;have E:=hid (And.intro hd hr);clear hM hx h3 hd hr;go_wp2_with fail
   exact⟨⟨k+1,by omega,by go_num,by rw[<- E.out.1,<- E.out.2];exact M.out.step⟩,by simp[intOf];omega⟩
  ·obtain rfl:k=N:=by omega
   go_wp2_with fail
   go_ret
   exact⟨rfl,M.out.row,M.out.bel⟩
end
theorem Qep(w:World)(e:TypeId)(s:ByteArray):Below w.heap.size w (Lib.bytesWorld w e s):=
 ⟨rfl,rfl,rfl,by rw[Lib.bytesWorld_size];omega,fun k hk=>Lib.bytesWorld_at_old w e s k hk⟩
theorem Qro(w:World)(e:TypeId)(s:ByteArray):Ql (Lib.bytesWorld w e s) 1 (.slice (some ⟨w.heap.size,0,none⟩) s.toList.length (grownCap w s.size 0 e)) s.toList.length ((List.range s.toList.length).map fun i => .int .u8 (bI s.toList i)):=by
 refine⟨by simp,_,_,rfl,by rw[Cn];exact grownCap_ge _ _ _ _,.inr ⟨_,_,rfl,fun j u hu => ?_⟩⟩
 rw[List.getElem?_map]at hu;have hj:j<s.toList.length:=by
  rcases Nat.lt_or_ge j s.toList.length with h | h
  ·exact h
  ·rw[List.getElem?_eq_none (by simpa using h)]at hu;cases hu
 rw[List.getElem?_range hj]at hu
 cases hu
 rw[Nat.zero_add,Lib.bytesWorld_cell w e s j (by rw[<- Cn];exact hj),<- ByteArray.toList_eq]
 rfl
structure Qzb(w:World)(wx:World):Prop where
 a:Blk wx w.heap.size #[.int .u64 0,.int .u64 0] 306
 b:Blk wx (w.heap.size+1) #[.int .u64 0,.int .u64 0] 306
 bel:Below w.heap.size w wx
theorem Qzb.next{w wx wy:World}(h:Qzb w wx)(hb:Below wx.heap.size wx wy):Qzb w wy:=⟨h.a.below hb,h.b.below hb,h.bel.trans (hb.mono h.bel.size)⟩
theorem Qzb.start(w:World):Qzb w ((w.alloc (.cells #[.int .u64 0,.int .u64 0] 306)).alloc (.cells #[.int .u64 0,.int .u64 0] 306)):=by
 have h2:=Blk.new (w.alloc (.cells #[.int .u64 0,.int .u64 0] 306)) #[.int .u64 0,.int .u64 0] 306;simp only[World.size_alloc]at h2;exact⟨(Blk.new w _ _).alloc _,h2,Ze w _ _⟩
theorem Qh4:(Tryz.prog.info? 31).map (·.size)=some 1:=by kernel_rfl
theorem Qo5{wx:World}{g gp m:Nat}(l:List UInt8)(h1:1<=l.length)(hl:l.length<=16)(hm:(l.length+7)/8=m)(hg:Blk wx g #[.int .u64 0,.int .u64 0] 306)(hr:Row wx gp m 31 (fun i => .int .u64 (Zy (bI l) l.length i))) :
  ∃ wy,(∀ ty,(Builtin.copy_ #[56,56] ty #[.slice (some ⟨g,0,none⟩) 2 2,.slice (some ⟨gp,0,none⟩) m m]).run prog wx = .ok (goInt (m:Nat)) wy) /\
   Blk wy g #[.int .u64 (pk0 l:Nat),.int .u64 (pk1 l:Nat)] 306/\(∀ k,k≠g->wy.heap[k]? = wx.heap[k]?)/\(∀ B w0,B<=g->Below B w0 wx->Below B w0 wy):=by
 have e0:Zy (bI l) l.length 0=(pk0 l:Nat):=Qid l 0;have e1:Zy (bI l) l.length 1=(pk1 l:Nat):=Qid l 1;have key:∀ cs:List Value,cs.length=m->(∀ (j:Nat) (v:Value),cs[j]? = some v->v=Value.int .u64 (Zy (bI l) l.length j))->(cs++([Value.int .u64 0,.int .u64 0]:List Value).drop (0+cs.length)) = [Value.int .u64 (pk0 l:Nat),Value.int .u64 (pk1 l:Nat)] ->
   ∃ wy,(∀ ty,(Builtin.copy_ #[56,56] ty #[.slice (some ⟨g,0,none⟩) 2 2,.slice (some ⟨gp,0,none⟩) m m]).run prog wx = .ok (goInt (m:Nat)) wy) /\
   Blk wy g #[.int .u64 (pk0 l:Nat),.int .u64 (pk1 l:Nat)] 306/\(∀ k,k≠g->wy.heap[k]? = wx.heap[k]?)/\(∀ B w0,B<=g->Below B w0 wx->Below B w0 wy):=by
  intro cs hc hv he;have hr2:=fun ty=>run_copy_row (P:=prog) wx 56 56 ty 31 g 0 2 2 ⟨gp,0,none⟩ m m #[.int .u64 0,.int .u64 0] 306 cs underlying56 Qh4 hg (by rw[hc];show m=min m 2;omega)
   (fun j u hj=>by
    have hj2:j<m:=by rw[<- hc];exact(List.getElem?_eq_some_iff.1 hj).1
    rw[Addr.add_lit,hv j u hj];simpa using hr.cell hj2) (by rw[hc];simp;omega) (fun u hu=>by
    obtain⟨j,hj,rfl⟩:=List.getElem_of_mem hu;rw[hv j _ (List.getElem?_eq_getElem hj)]
    rfl)
  refine⟨_,fun ty=>by rw[hr2 ty,hc],?_,fun k hk=>setRow_other _ _ _ _ hk,fun B w0 hB hb=>below_setRow hb hB _⟩
  have:=setRow_heap wx g #[.int .u64 0,.int .u64 0] (([Value.int .u64 0,.int .u64 0]:List Value).take 0++cs++([Value.int .u64 0,.int .u64 0]:List Value).drop (0+cs.length)).toArray 306 (0,0) hg;rw[hc]at he this;rw[List.take_zero,List.nil_append]at this
  conv at this=>rhs;rw[he]
  exact this
 by_cases h8:l.length<=8
 ·have hz:pk1 l=0:=by unfold pk1;rw[List.drop_eq_nil_of_le (by omega)];rfl
  refine key [.int .u64 (pk0 l:Nat)] (by simp;omega) (fun j v hj => ?_) (by rw[hz];rfl)
  cases j with
  | zero=>cases hj;rw[e0]
  | succ j=>cases hj
 ·refine key [.int .u64 (pk0 l:Nat),.int .u64 (pk1 l:Nat)] (by simp;omega) (fun j v hj => ?_) rfl
  rcases j with _ | _ | j
  ·cases hj;rw[e0]
  ·cases hj;rw[e1]
  ·cases hj
section
variable{w:World}
theorem Qkq(s:ByteArray)(h1:1<=s.toList.length)(h2:s.toList.length<=16):Calls prog 229 #[.string s] w fun r w'=>r = .returned (.agg #[.int .u64 (pk0 s.toList:Nat),.int .u64 (pk1 s.toList:Nat)])/\Below w.heap.size w w':=by
 have S0:=hid (Qzb.start w);have HPK:=hid (fun(wx:World) sv h=>Qqp (w:=wx) sv s.toList h h2);have HRD:=hid (fun wx=>Qro wx 5 s);have hcv:=fun(wx:World)=>Lib.run_convert_string_bytes (P:=prog) wx 9 62 5 s underlying9 underlying62 underlying5
 have HCV:=hid hcv;have HCP:=hid (fun(wx:World) (g gp m:Nat) (hm:(s.toList.length+7)/8=m) (hg:Blk wx g #[.int .u64 0,.int .u64 0] 306) hr=>Qo5 (wx:=wx) (g:=g) (gp:=gp) (m:=m) s.toList h1 h2 hm hg hr);rw[<- Cn]at HCV HRD;clear hcv;obtain⟨m,hm⟩:∃ m,(s.toList.length+7)/8=m:=⟨_,rfl⟩;rw[hm]at HPK;have HM:=hid hm;clear hm h1 h2
 go_enter func229,ntmps229
 go_wp2_with fail
 have S1:=hid (S0.out.next ((Below.refl _ _).drew));clear S0;refine wp_region_held (S:=(fun wx=>Below w.heap.size w wx)) (by kernel_rfl) ?_
 change wpAnyH _ _ _ _ _ _ _ _ (World.drew _)
 refine tkH 0 (.slice (some ⟨w.heap.size+1,0,none⟩) 2 2) rfl (fun w _=>by go_simp) S1.out.bel ?_
 refine tkH 1 (.string s) rfl (fun w _=>by go_simp) S1.out.bel ?_
 have hcv:=HCV.out (World.drew ((w.alloc (.cells #[.int .u64 0,.int .u64 0] 306)).alloc (.cells #[.int .u64 0,.int .u64 0] 306)));have S2:=hid (S1.out.next (Qep _ 5 s));have R2:=hid (HRD.out (World.drew ((w.alloc (.cells #[.int .u64 0,.int .u64 0] 306)).alloc (.cells #[.int .u64 0,.int .u64 0] 306))))
 generalize hw1:World.drew _=w1 at S1 S2 R2 hcv ⊢
 generalize hw2:Lib.bytesWorld w1 5 s=w2 at S2 R2 hcv
 clear hw1 hw2;refine onH 2 rfl (fun K hK => ?_);go_simp;refine hK _ _ ⟨S2.out.bel,?_⟩;clear hK K
 clear hcv;refine onH 3 rfl (fun K hK => ?_);go_simp
 (with_reducible refine(HPK.out _ _ R2.out).mono ?_)
 rintro e w3 ⟨rfl,r3,b3⟩;have S3:=hid (S2.out.next b3);have R3:=hid r3;clear r3 b3
 go_simp;refine hK _ _ ⟨S3.out.bel,?_⟩;clear hK K
 obtain⟨w4,hcp,k4,o4,l4⟩:=HCP.out w3 (w.heap.size+1) w2.heap.size m HM.out S3.out.b R3.out;have K4:=hid k4;have A4:Hid (Blk w4 w.heap.size #[.int .u64 0,.int .u64 0] 306):=(o4 _ (by omega)).trans S3.out.a;have B4:=hid (l4 _ _ (by omega) S3.out.bel);clear k4 o4 l4;refine onH 4 rfl (fun K hK => ?_);go_simp;refine hK _ _ ⟨B4.out,?_⟩;clear hK K
 refine wpAnyH_done (by kernel_rfl) ?_ _
 clear hcp S1 S2 S3 R2 R3;have c0:=K4.out.cell (i:=0) rfl;have c1:=K4.out.cell (i:=1) rfl;have z0:=A4.out.cell (i:=0) rfl;have z1:=A4.out.cell (i:=1) rfl;have f0:=A4.out.frozen 0;have f1:=A4.out.frozen 1;go_wp2_with fail
 have K5:=((A4.out.set 0 (.int .u64 (pk0 s.toList:Nat))).set 1 (.int .u64 (pk1 s.toList:Nat)));have r0:=K5.cell (i:=0) (v:=.int .u64 (pk0 s.toList:Nat)) rfl;have r1:=K5.cell (i:=1) (v:=.int .u64 (pk1 s.toList:Nat)) rfl;refine bodyPost_ret (v:=.agg #[.int .u64 (pk0 s.toList:Nat),.int .u64 (pk1 s.toList:Nat)]) (by simp[results,results229,go_sem,r0,r1]) rfl ⟨rfl,?_⟩
 exact(B4.out.setCell (Nat.le_refl _) _).setCell (Nat.le_refl _) _
theorem Qie{wx:World}{g:Nat}{x y p t:Nat}(h:Blk wx g #[.int .u64 x,.int .u64 y,.int .u64 p,.int .u64 t] 230):Ql wx 1 (.slice (some ⟨g,0,none⟩) 2 4) 2 (Zw [x,y]):=
 ⟨rfl,_,_,rfl,by omega,.inr ⟨g,0,rfl,fun j u hu=>by
  rcases j with _ | _ | j
  ·cases hu;exact h.cell rfl
  ·cases hu;exact h.cell rfl
  ·cases hu⟩⟩
theorem Qdt(h:Nib w)(x y p t:Nat)(hx:x<18446744073709551616)(hy:y<18446744073709551616):Calls prog 151 #[.agg #[.int .u64 x,.int .u64 y,.int .u64 p,.int .u64 t]] w fun r w'=>r = .returned (.int .u64 (Qgs x y:Nat))/\Below w.heap.size w w':=by
 have B0:=hid (Qa w (.cells #[.int .u64 x,.int .u64 y,.int .u64 p,.int .u64 t] 230));have HC:=hid (Uy (h.below B0.out) (.slice (some ⟨w.heap.size,0,none⟩) 2 4) [x,y] (Qie (Blk.new w _ _)) (by simp) (by simp;omega));have hb:=Gn [x,y];have ht:(Qgs x y:Nat)=4294967296+Nd [x,y]:=rfl;have hq:(4294967296:Int)+(Nd [x,y]:Nat)=(Qgs x y:Nat):=by omega
 have htl:=Qbm x y
 generalize Nd [x,y]=c at *
 generalize Qgs x y=tg at *
 clear ht h
 go_enter func151,ntmps151
 go_wp2_with fail
 (with_reducible refine HC.out.mono ?_)
 rintro e w' ⟨rfl,rfl⟩;go_wp2_with fail
 go_ret
 exact⟨rfl,B0.out⟩
def Ca(x y:Nat)(i:Nat):Int:=if i=0 then(x:Nat)else(y:Nat)
theorem Qpj(x y:Nat):(strOfNums ((List.range 16).map fun i=>Qq (Ca x y) i)).data.toList=Nx x y:=by
 rw[strOfNums_data]
 apply List.ext_getElem?
 intro j;rw[List.getElem?_map,List.getElem?_map]
 rcases Nat.lt_or_ge j 16 with hj | hj
 ·rw[List.getElem?_range hj,Qpk _ _ _ hj]
  simp only[Option.map_some]
  congr 1
  apply UInt8.toNat_inj.1
  unfold Qq Ca
  split
  ·rename_i h8
   rw[if_pos (by omega),Ue,show j%8*8=8*j by omega];have e:((x:Nat):Int)/2 ^ (8*j)%256=((x/256 ^ j%256:Nat):Int):=by
    rw[show(256:Nat)=2 ^ 8 from rfl,<- Nat.pow_mul];simp
   rw[e,Int.toNat_natCast];simp
  ·rename_i h8
   rw[if_neg (by omega),Ue,show j%8*8=8*(j-8)by omega];have e:((y:Nat):Int)/2 ^ (8*(j-8))%256=((y/256 ^ (j-8)%256:Nat):Int):=by
    rw[show(256:Nat)=2 ^ 8 from rfl,<- Nat.pow_mul];simp
   rw[e,Int.toNat_natCast];simp
 ·rw[List.getElem?_eq_none (by simpa using hj),List.getElem?_eq_none (by rw[Sy];exact hj)]
  rfl
theorem Qgu(sv:Value)(x y:Nat)(h:Ql w 1 sv 2 (Zw [x,y]))(hx:x<18446744073709551616)(hy:y<18446744073709551616) :
  Calls prog 202 #[sv,.int .i64 16] w fun r w'=>r = .returned (.tuple #[.slice (some ⟨w.heap.size,0,none⟩) 16 16,.int .i64 0])/\Row w' w.heap.size 16 5 (fun i => .int .u8 (Qq (Ca x y) i))/\Below w.heap.size w w':=by
 obtain⟨_,a,c,rfl,hc,h2⟩:=h;have hw:=fun(wx:World)=>Pl (w:=wx) 16 (by omega)
 rw[show((16:Nat):Int)=16 from rfl,show(((16+7)/8:Nat):Int)=2 from rfl]at hw;have HW:=hid hw;have HR:=hid h2;clear h2 hw
 have HF:Hid (∀ i,i<2->0<=Ca x y i/\Ca x y i<18446744073709551616/\(Zw [x,y])[i]? = some (.int .u64 (Ca x y i))):=fun i hi=>by
  rcases i with _ | _ | i
  ·exact⟨by show 0<=((x:Nat):Int);omega,by show((x:Nat):Int)<_;omega,rfl⟩
  ·exact⟨by show 0<=((y:Nat):Int);omega,by show((y:Nat):Int)<_;omega,rfl⟩
  ·omega
 generalize Ca x y=f at *
 generalize Zw [x,y]=ns at *
 have hmk:=fun(wx:World)=>Qan wx 16 (by omega)
 rw[show((16:Nat):Int)=16 from rfl]at hmk;have M0:=hid (Ie.start (w:=w) f 16);clear hx hy
 go_enter func202,ntmps202
 go_wp2_with fail
 (with_reducible refine(HW.out _).mono ?_)
 rintro e w' ⟨rfl,rfl⟩;go_wp2_with fail
 go_loopw [7,36] (fun _ y wr=>∃ k:Nat,k<=16/\y = .int .i64 k/\Ie w f 16 k wr) (fun _ y _=>16-(intOf y).toNat)
 case atStart=>exact⟨0,by omega,rfl,M0.out⟩
 case round=>
  obtain⟨k,hk,rfl,hM⟩:=hrel;have M:=hid hM;clear M0
  by_cases hlt:k<16
  ·have hlt':(k:Int)<16:=by omega
   have hf1:=hM.row.frozen k;have hsz:w.heap.size<wr.heap.size:=hM.row.lt;have hcell:=hM.row.cell hlt;obtain⟨u0,hu0⟩:∃ u,wr.cell? ⟨w.heap.size,k,none⟩=some u:=⟨_,hcell⟩;obtain⟨d,hd⟩:∃ d,k/8=d:=⟨_,rfl⟩;obtain⟨r,hr⟩:∃ r,k%8=r:=⟨_,rfl⟩;have q2:(k:Int)/8=d:=by omega
   have q3:(k:Int)%8=r:=by omega
   have hdn:(d:Int)<2:=by omega
   have hr8:r<8:=by omega
   have hx:=(HF.out d (by omega)).2.2;obtain⟨b,o,rfl,h3⟩:=Zr HR.out hx;have c1:=(hM.bel.cell (p:=⟨b,o+d,none⟩) (World.block_lt_of_cell? _ _ (h3 d _ hx))).trans (h3 d _ hx);have E:=hid (And.intro hd hr);clear hM hcell hx h3 hd hr;go_wp2_with fail
   exact⟨⟨k+1,by omega,by go_num,by rw[<- E.out.1,<- E.out.2];exact M.out.step⟩,by simp[intOf];omega⟩
  ·obtain rfl:k=16:=by omega
   go_wp2_with fail
   go_ret2
   exact⟨rfl,M.out.row.congr (fun i hi=>by rw[if_pos hi]),M.out.bel⟩
end
end
section
open Go.Maps
attribute [local go_sem ↓] Go.wp_at_zero Go.wp_at_succ
def nmS(x y:Nat):ByteArray:=⟨(nmL x y).toArray⟩
theorem Qav(x y:Nat):(nmS x y).toList=nmL x y:=ByteArray.toList_mk _
def enS(x y t:Nat):ByteArray:=if t=0 then⟨#[]⟩else nmS x y
section
variable{w:World}
theorem Lc(x y p t:Nat)(hx:x<18446744073709551616)(hy:y<18446744073709551616):Calls prog 150 #[.agg #[.int .u64 x,.int .u64 y,.int .u64 p,.int .u64 t]] w fun r w'=>r = .returned (.tuple #[.string (enS x y t),.bool (t != 0)])/\Below w.heap.size w w':=by
 have B0:=hid (Qa w (.cells #[.int .u64 x,.int .u64 y,.int .u64 p,.int .u64 t] 230));have HU:=hid (Qgu (.slice (some ⟨w.heap.size,0,none⟩) 2 4) x y (Qie (Blk.new w #[.int .u64 x,.int .u64 y,.int .u64 p,.int .u64 t] 230)) hx hy);have K0:=hid (Blk.new w #[.int .u64 x,.int .u64 y,.int .u64 p,.int .u64 t] 230);have hcv:=fun(wx:World) (g:Nat) (h:Row wx g 16 5 (fun i => .int .u8 (Qq (Ca x y) i)))=>run_convert_bytes_arg (P:=prog) wx 62 5 underlying62 underlying5 g 0 16 16 ((List.range 16).map fun i=>Qq (Ca x y) i) (by simp) (fun i hi=>by
  rw[h.cell (i:=0+i) (by omega)];simp[List.getD,List.getElem?_map,List.getElem?_range hi]) 9 underlying9
 have htr:=fun(wx:World)=>Tryz.strings_TrimRight_one (strOfNums ((List.range 16).map fun i=>Qq (Ca x y) i)) 0 (by decide) wx (by rw[strOfNums_size];simp)
 rw[Qpj]at htr
 generalize strOfNums ((List.range 16).map fun i=>Qq (Ca x y) i)=rs at hcv htr
 have HTR:Hid (∀ wx:World,Calls prog 203 #[.string rs,.string ⟨#[0]⟩] wx fun e w'=>e = .returned (.string (nmS x y))/\w'=wx):=htr;have HCV:=hid hcv;have HEN:Hid (enS x y t=if t=0 then⟨#[]⟩else nmS x y):=rfl
 generalize enS x y t=es at *
 generalize nmS x y=ns at *
 have hb:((t:Int) != 0)=(t != 0):=by rw[Bool.eq_iff_iff];simp
 have hb2:((t:Int)==0) = !(t != 0):=by rw[Bool.eq_iff_iff];simp
 rw[<- hb];clear hcv htr hx hy
 by_cases h0:t=0
 ·obtain rfl:es=⟨#[]⟩:=by have:=HEN.out;rw[if_pos h0]at this;exact this
  have hz:((t:Int)==0)=true:=by simp;omega
  have hz2:((t:Int) != 0)=false:=by simp;omega
  clear h0 hb hb2 HEN;rw[hz2]
  go_enter func150,ntmps150
  go_wp2_with fail
  (with_reducible refine HU.out.mono ?_)
  rintro e w1 ⟨rfl,r1,b1⟩;have B1:=hid (B0.out.trans (b1.mono B0.out.size));have c3:=(K0.out.below b1).cell (i:=3) rfl;clear r1 b1 K0 B0;go_wp2_with fail
  go_ret2
  exact⟨rfl,B1.out⟩
 ·obtain rfl:es=ns:=by have:=HEN.out;rw[if_neg h0]at this;exact this
  have hz:((t:Int)==0)=false:=by simp;omega
  have hz2:((t:Int) != 0)=true:=by simp;omega
  clear h0 hb hb2 HEN;rw[hz2]
  go_enter func150,ntmps150
  go_wp2_with fail
  (with_reducible refine HU.out.mono ?_)
  rintro e w1 ⟨rfl,r1,b1⟩;have B1:=hid (B0.out.trans (b1.mono B0.out.size));have c3:=(K0.out.below b1).cell (i:=3) rfl;have hcv1:=HCV.out _ _ r1;simp only[World.size_alloc]at hcv1;clear r1 b1 K0 B0 HCV;go_wp2_with fail
  (with_reducible refine(HTR.out _).mono ?_)
  rintro e w2 ⟨rfl,rfl⟩;go_wp2_with fail
  go_ret2
  exact⟨rfl,B1.out⟩
structure Yg(w:World)(b off:Nat)(m:Value):Prop where
 blk:Blk w b #[m,.int .u64 off] 228
theorem Yg.next{wx:World}{b off:Nat}{m:Value}(h:Yg w b off m)(hb:Below w.heap.size w wx):Yg wx b off m:=⟨h.blk.below hb⟩
theorem Ld:Calls prog 183 #[.pointer none] w fun r w'=>r = .returned (.bool true)/\w=w':=by
 go_enter func183,ntmps183
 go_wp2_with fail
 go_ret
 exact⟨rfl,rfl⟩
theorem Qkp{b off:Nat}{a:Addr}(h:Yg w b off (.iface 40 (.pointer (some a)))):Calls prog 183 #[.pointer (some ⟨b,0,none⟩)] w fun r w'=>r = .returned (.bool false)/\w=w':=by
 have c0:=h.blk.cell (i:=0) rfl
 go_enter func183,ntmps183
 go_wp2_with fail
 go_ret
 exact⟨rfl,rfl⟩
theorem Qba{b off:Nat}{m:Value}(h:Yg w b off m)(e k:Nat)(he:e<16)(hk:k<4)(ho:off<=262144):Calls prog 182 #[.pointer (some ⟨b,0,none⟩),.int .i64 e,.int .i64 k] w fun r w'=>r = .returned (.int .u64 ((off+32*e+8*k:Nat):Int))/\w=w':=by
 have c1:=h.blk.cell (i:=1) rfl;obtain⟨q,hq⟩:∃ q,off+32*e+8*k=q:=⟨_,rfl⟩;have hq2:(off:Int)+((e:Int)*4+(k:Int))*8=(q:Int):=by omega
 rw[hq]
 go_enter func182,ntmps182
 go_wp2_with fail
 go_ret
 first | exact⟨rfl,rfl⟩ | exact⟨Xm (by omega),rfl⟩
end
end

section
open Go.Maps
attribute [local go_sem ↓] Go.wp_at_zero Go.wp_at_succ
def wsA(f:Nat->Int):Array Value:=((List.range 64).map fun i=>Value.int .u64 (f i)).toArray
theorem Jb(f:Nat->Int):(wsA f).size=64:=by simp[wsA]
theorem Lq(f:Nat->Int)(i:Nat)(h:i<64):(wsA f)[i]? = some (.int .u64 (f i)):=by
 unfold wsA;rw[List.getElem?_toArray,List.getElem?_map,List.getElem?_range h];rfl
theorem Cs(f:Nat->Int):(wsA f).all (·.oneCell')=true:=by
 rw[Array.all_eq_true];intro i hi;rw[Jb]at hi;have:=Lq f i hi;rw[Array.getElem?_eq_getElem (by rw[Jb];exact hi)]at this;rw[Option.some.inj this];rfl
theorem Qy6(f:Nat->Int)(k:Nat)(x:Int):(wsA f).setIfInBounds k (.int .u64 x)=wsA (fun i=>if i=k then x else f i):=by
 apply Array.ext_getElem?
 intro i;rw[Array.getElem?_setIfInBounds]
 rcases Nat.lt_or_ge i 64 with hi | hi
 ·rw[Lq _ i hi,Lq _ i hi,Jb]
  by_cases e:k=i
  ·subst e;simp[hi]
  ·rw[if_neg e,if_neg (Ne.symm e)]
 ·rw[Array.getElem?_eq_none (by rw[Jb];exact hi),Array.getElem?_eq_none (by rw[Jb];exact hi)]
  split
  ·rw[Jb,if_neg (by omega)]
  ·rfl
theorem Fn{f g:Nat->Int}(h:∀ i,i<64->f i=g i):wsA f=wsA g:=by
 apply Array.ext_getElem?
 intro i
 rcases Nat.lt_or_ge i 64 with hi | hi
 ·rw[Lq _ i hi,Lq _ i hi,h i hi]
 ·rw[Array.getElem?_eq_none (by rw[Jb];exact hi),Array.getElem?_eq_none (by rw[Jb];exact hi)]
structure RtL(w:World)(f:Nat->Int)(m:Nat)(wr:World):Prop where
 res:Blk wr w.heap.size (wsA fun _=>0) 231
 row:Blk wr (w.heap.size+1) (wsA fun i=>if i<m then f i else 0) 231
 bel:Below w.heap.size w wr
section
variable{w wr:World}{f:Nat->Int}{m:Nat}
theorem RtL.start:RtL w f 0 ((w.alloc (.cells (wsA fun _=>0) 231)).alloc (.cells (wsA fun _=>0) 231)):=by
 have h2:=Blk.new (w.alloc (.cells (wsA fun _=>0) 231)) (wsA fun _=>0) 231;simp only[World.size_alloc]at h2;exact⟨(Blk.new w _ _).alloc _,by rw[Fn (g:=fun _=>0) (fun i _=>if_neg (by omega))];exact h2,Ze w _ _⟩
theorem RtL.step(h:RtL w f m wr){x:Int}(hx:f m=x):RtL w f (m+1) (wr.setCell ⟨w.heap.size+1,m,none⟩ (.int .u64 x)):=by
 refine⟨h.res.other (by simp) _,?_,h.bel.setCell (by simp) _⟩
 have:=h.row.set m (.int .u64 x);rw[Qy6]at this;rw[Fn (g:=fun i=>if i=m then x else if i<m then f i else 0)]
 ·exact this
 ·intro i _
  by_cases e:i=m
  ·subst e;rw[if_pos (by omega),if_pos rfl,hx]
  ·rw[if_neg e]
   by_cases e2:i<m
   ·rw[if_pos e2,if_pos (by omega)]
   ·rw[if_neg e2,if_neg (by omega)]
theorem RtL.drew(h:RtL w f m wr):RtL w f m wr.drew:=⟨h.res,h.row,h.bel.drew⟩
theorem RtL.whole(h:RtL w f 64 wr):Blk wr (w.heap.size+1) (wsA f) 231:=by
 rw[<- Fn (f:=fun i=>if i<64 then f i else 0) (fun i hi=>if_pos hi)];exact h.row
end
theorem Ph{P:Program}{fn:Func}{p u:Tmp}{ty:TypeId}(h:fn.results = #[.cell p ty,.tmp u])(tmps:Array Value)(wx:World)(g:Nat)(t:TypeId)(cs:Array Value)(d:TypeDesc)
  (hp:tmps.getD p undef = .pointer (some ⟨g,0,none⟩)) (hg:wx.heap[g]? = some (.cells cs t (0,0))) (hu:P.underlying ty=some d) (hd:(match d with | .struct _ | .array _ _=>true | _=>false)=true) (hi:(P.info? ty).map (·.size)=some cs.size)
  (x:Value) (hx:tmps.getD u undef=x):(results fn tmps).run P wx = .ok (.tuple #[.agg cs,x]) wx:=by
 rw[results_cell_tmp h,hp,hx];simp[asAddr,run_loadVar_row wx g t ty cs (0,0) d hg hu hd hi]
section
variable{w:World}{v:DV}{own:Nat->Option Qp}{D:Dev}{j:Nat}
theorem Qfk(f:Nat->Int):(Tryz.prog.info? 231).map (·.size)=some (wsA f).size:=by rw[Jb];kernel_rfl
theorem Qko(h:IsDev w v own D)(hj:j<8){b off:Nat}(hd:Yg w b off (.iface 40 (.pointer (some ⟨v.tb j,0,none⟩))))(hof:D.off=false)(he:D.err j=0)(h8:off%8=0)(hl:off+512<=64*D.n) :
  Calls prog 149 #[.pointer (some ⟨b,0,none⟩)] w fun r w'=>r = .returned (.tuple #[.agg (wsA fun i=>D.cur (off/8+i)),.int .i64 0])/\Below w.heap.size w w':=by
 have hm1:=meth_Load ⟨v.tb j,0,none⟩;have hm2:=meth_Err ⟨v.tb j,0,none⟩
 have H:=hid h;have HD:=hid hd
 have hn2:=h.wf.le;have hER:=fun wx (hx:IsDev wx v own D)=>err_any hx hj
 rw[he]at hER;have HER:=hid hER;have HLD:=hid (fun wx (hx:IsDev wx v own D) (o:Nat) (h8:o%8=0) (hl:o<64*D.n)=>load_ok hx hj o hof h8 hl);have hob:off<=262144:=by omega
 have HAT:=hid (fun(wx:World) (hx:Yg wx b off (.iface 40 (.pointer (some ⟨v.tb j,0,none⟩)))) (e k:Nat) (he:e<16) (hk:k<4)=>Qba hx e k he hk hob);have S0:=hid (RtL.start (w:=w) (f:=fun i=>D.cur (off/8+i)));clear h hd hER he
 go_enter func149,ntmps149
 have c0:=HD.out.blk.cell (i:=0) (v:=.iface 40 (.pointer (some ⟨v.tb j,0,none⟩))) rfl;have hbs:b<w.heap.size:=HD.out.blk.lt;have hb1:b≠w.heap.size:=by omega
 have hb2:b≠w.heap.size+1:=by omega
 go_wp2_with fail
 (with_reducible refine(HER.out _ ((H.out.alloc _).alloc _)).mono ?_)
 rintro e w' ⟨rfl,rfl⟩;clear c0;go_wp2_with fail
 go_loopw [6,17] (fun _ y wr=>∃ e:Nat,e<=16/\y = .int .i64 e/\RtL w (fun i=>D.cur (off/8+i)) (4*e) wr) (fun _ y _=>16-(intOf y).toNat)
 case atStart=>exact⟨0,by omega,rfl,S0.out⟩
 case round=>
  clear S0;obtain⟨e,he,rfl,hs⟩:=hrel;have S:=hid hs;clear hs
  by_cases hlt:e<16
  ·have he':(e:Int)<16:=by omega
   go_wp2_with fail
   go_loopw [7,20] (fun _ y wq=>∃ k:Nat,k<=4/\y = .int .i64 k/\RtL w (fun i=>D.cur (off/8+i)) (4*e+k) wq) (fun _ y _=>4-(intOf y).toNat)
   case atStart=>exact⟨0,by omega,rfl,S.out⟩
   case round=>
    clear S;obtain⟨k,hk,rfl,hs⟩:=hrel;rename World=>wq
    have S:=hid hs;clear hs
    by_cases hlt2:k<4
    ·have hk':(k:Int)<4:=by omega
     have hLk:=fun wy hy=>HLD.out wy hy (off+32*e+8*k) (by omega) (by omega)
     rw[show(off+32*e+8*k)/8=off/8+(4*e+k)by omega]at hLk;obtain⟨x,hx⟩:∃ x,D.cur (off/8+(4*e+k))=x:=⟨_,rfl⟩;rw[hx]at hLk;have HX:=hid hx;have HAK:=hid (fun wy hy=>HAT.out wy hy e k hlt hlt2);obtain⟨q,hq⟩:∃ q,off+32*e+8*k=q:=⟨_,rfl⟩;rw[hq]at hLk HAK;have HLK:=hid hLk;have HIDX:Hid (e*4+k=4*e+k):=(by omega:e*4+k=4*e+k);have S1:=hid (show Below w.heap.size w wq.drew from S.out.bel.drew);have hcell:=S.out.row.cell (i:=e*4+k) (Lq _ _ (by omega));have hfro:=S.out.row.frozen (e*4+k)
     generalize (if e*4+k<4*e+k then D.cur (off/8+(e*4+k))else 0)=old at *
     have S2:Hid (Below w.heap.size w ((wq.setCell ⟨w.heap.size+1,e*4+k,none⟩ (.int .u64 x)).drew)):=(S.out.bel.setCell (p:=⟨w.heap.size+1,e*4+k,none⟩) (Nat.le_succ _) _).drew;clear hLk hx hq;go_wp2_with fail
     refine wp_region_held (S:=(fun wx=>Below w.heap.size w wx)) (by kernel_rfl) ?_
     change wpAnyH _ _ _ _ _ _ _ _ (World.drew _)
     refine tkH 0 (.int .i64 (e:Int)) rfl (fun w _=>by go_simp) S1.out ?_
     refine tkH 1 (.int .i64 (k:Int)) rfl (fun w _=>by go_simp) S1.out ?_
     refine tkH 2 (.pointer (some ⟨b,0,none⟩)) rfl (fun w _=>by go_simp) S1.out ?_
     refine tkH 3 (.pointer (some ⟨b,0,none⟩)) rfl (fun w _=>by go_simp) S1.out ?_
     refine tkH 4 (.pointer (some ⟨b,0,none⟩)) rfl (fun w _=>by go_simp) S1.out ?_
     refine tkH 5 (.iface 40 (.pointer (some ⟨v.tb j,0,none⟩))) rfl (fun wx hx=>(by have c:=(HD.out.next hx).blk.cell (i:=0) (v:=.iface 40 (.pointer (some ⟨v.tb j,0,none⟩))) rfl;go_simp)) S1.out ?_
     refine tkH 6 (.pointer (some ⟨b,0,none⟩)) rfl (fun w _=>by go_simp) S1.out ?_
     refine tkH 7 (.int .i64 (e:Int)) rfl (fun w _=>by go_simp) S1.out ?_
     refine tkH 8 (.int .i64 (k:Int)) rfl (fun w _=>by go_simp) S1.out ?_
     refine tkH 10 (.iface 40 (.pointer (some ⟨v.tb j,0,none⟩))) rfl (fun w _=>by go_simp) S1.out ?_
     refine tkH 11 (.iface 40 (.pointer (some ⟨v.tb j,0,none⟩))) rfl (fun w _=>by go_simp) S1.out ?_
     refine tkH 13 (.pointer (some ⟨w.heap.size+1,e*4,none⟩)) rfl (fun w _=>by go_simp) S1.out ?_
     refine onH 9 rfl (fun K hK => ?_);go_simp
     (with_reducible refine(HAK.out _ (HD.out.next S1.out)).mono ?_)
     rintro e' w' ⟨rfl,rfl⟩
     go_simp;refine hK _ _ ⟨S1.out,?_⟩;clear hK K
     refine onH 12 rfl (fun K hK => ?_);go_simp
     (with_reducible refine(HLK.out _ (H.out.below S1.out)).mono ?_)
     rintro e' w' ⟨rfl,rfl⟩
     go_simp;refine hK _ _ ⟨S1.out,?_⟩;clear hK K
     refine tkH 14 (.pointer (some ⟨w.heap.size+1,e*4+k,none⟩)) rfl (fun w _=>by go_simp) S1.out ?_
     refine onH 15 rfl (fun K hK => ?_);go_simp;refine hK _ _ ⟨S2.out,?_⟩;clear hK K
     refine wpAnyH_done (by kernel_rfl) ?_ _
     go_wp2_with fail
     go_roundw
     case rel=>exact⟨k+1,by omega,by go_num,by rw[HIDX.out];exact(S.out.step HX.out).drew⟩
     case measure=>simp[intOf];omega
    ·obtain rfl:k=4:=by omega
     go_wp2_with fail
     go_roundw
     case rel=>exact⟨e+1,by omega,by go_num,S.out⟩
     case measure=>simp[intOf];omega
  ·obtain rfl:e=16:=by omega
   have HAF:Hid (∃ A,(wsA fun i=>D.cur (off/8+i))=A):=⟨_,rfl⟩;have HIA:=hid (Qfk (fun i=>D.cur (off/8+i)));have HOA:=hid (Cs (fun i=>D.cur (off/8+i)));have HSZ:Hid ((wsA fun _=>0).size=(wsA (fun i=>D.cur (off/8+i))).size):=by show _=_;rw[Jb,Jb]
   have RW:=hid (show Blk wr.drew (w.heap.size+1) (wsA fun i=>D.cur (off/8+i)) 231 from S.out.whole);have RZ:=hid (show Blk wr.drew w.heap.size (wsA fun _=>0) 231 from S.out.res);have BW:=hid S.out.bel.drew;obtain⟨A,hA⟩:=HAF.out;rw[hA]at HIA HOA HSZ RW;have HA:=hid hA;have S1:Hid (Blk wr.drew (w.heap.size+1) A 231/\Below w.heap.size w wr.drew):=⟨RW.out,BW.out⟩;clear hA HAF S BW
   generalize (wsA fun _=>0)=Z at *
   go_wp2_with fail
   refine wp_region_held (S:=(fun wx=>Blk wx (w.heap.size+1) A 231/\Below w.heap.size w wx)) (by kernel_rfl) ?_
   change wpAnyH _ _ _ _ _ _ _ _ (World.drew _)
   refine tkH 0 (.agg A) rfl (fun wx hx=>Ym 231 (.tmp 4) rfl (w.heap.size+1) rfl 231 A (0,0) _ hx.1 underlying231 rfl HIA.out) S1.out ?_
   refine tkH 1 (.pointer (some ⟨b,0,none⟩)) rfl (fun w _=>by go_simp) S1.out ?_
   refine tkH 2 (.pointer (some ⟨b,0,none⟩)) rfl (fun w _=>by go_simp) S1.out ?_
   refine tkH 3 (.pointer (some ⟨b,0,none⟩)) rfl (fun w _=>by go_simp) S1.out ?_
   refine tkH 4 (.iface 40 (.pointer (some ⟨v.tb j,0,none⟩))) rfl (fun wx hx=>(by have c:=(HD.out.next hx.2).blk.cell (i:=0) (v:=.iface 40 (.pointer (some ⟨v.tb j,0,none⟩))) rfl;go_simp)) S1.out ?_
   refine Qb (i:=5) (by kernel_rfl) rfl rfl (fun K hK => ?_)
   go_simp
   (with_reducible refine(HER.out _ (H.out.below S1.out.2)).mono ?_)
   rintro e' w' ⟨rfl,rfl⟩
   go_simp
   refine hK _ _ ⟨S1.out,?_⟩
   clear hK K;refine Qb (i:=6) (by kernel_rfl) rfl rfl (fun K hK => ?_)
   refine wp_store_row 231 (.tmp 2) (.tmp 40) rfl w.heap.size A rfl rfl 231 Z RZ.out HIA.out HSZ.out HOA.out ?_
   refine hK _ _ ⟨⟨(setRow_other _ _ _ _ (by simp)).trans RW.out,below_setRow S1.out.2 (Nat.le_refl _) _⟩,?_⟩
   clear hK K;refine onH 7 rfl (fun K hK => ?_);go_simp;refine hK _ _ ⟨⟨(setRow_other _ _ _ _ (by simp)).trans RW.out,below_setRow S1.out.2 (Nat.le_refl _) _⟩,?_⟩;clear hK K
   refine wpAnyH_done (by kernel_rfl) ?_ _
   go_wp2_with fail
   refine bodyPost_ret (v:=.tuple #[.agg A,.int .i64 0]) (Ph results149 _ _ _ _ A _ rfl (setRow_heap _ _ _ A 231 (0,0) RZ.out) underlying231 rfl HIA.out _ rfl) rfl ⟨by rw[HA.out],below_setRow S1.out.2 (Nat.le_refl _) _⟩
end
end
section
open Go.Maps
attribute [local go_sem ↓] Go.wp_at_zero Go.wp_at_succ
def wsN(W:Nat->Nat):Array Value:=wsA fun i=>(W i:Nat)
theorem Qso(W:Nat->Nat)(e:Nat)(he:e<16)(wx:World):(Instr.index 231 (.agg (wsN W)) (.int .i64 (e:Nat))).run prog wx = .ok (.agg #[.int .u64 (W (4*e):Nat),.int .u64 (W (4*e+1):Nat),.int .u64 (W (4*e+2):Nat),.int .u64 (W (4*e+3):Nat)]) wx:=by
 obtain rfl | rfl | rfl | rfl | rfl | rfl | rfl | rfl | rfl | rfl | rfl | rfl | rfl | rfl | rfl | rfl:e=0\/e=1\/e=2\/e=3\/e=4\/e=5\/e=6\/e=7\/e=8\/e=9\/e=10\/e=11\/e=12\/e=13\/e=14\/e=15:=by omega
 all_goals kernel_rfl
section
variable{w:World}{v:DV}{own:Nat->Option Qp}{D:Dev}{j:Nat}
theorem Qaf(W:Nat->Nat):(Tryz.prog.info? 231).map (·.size)=some (wsN W).size:=Qfk _
theorem Qbq(W:Nat->Nat):(wsN W).size=64:=Jb _
structure WAt(D:Dev)(off:Nat)(W:Nat->Nat):Prop where
 at8:off%8=0
 fit:off+512<=64*D.n
 cur:∀ i,i<64->D.cur (off/8+i)=(W i:Nat)
 bd:∀ i,W i<18446744073709551616
theorem Qt3(h:IsDev w v own D)(hj:j<8){b off:Nat}{W:Nat->Nat}(hd:Yg w b off (.iface 40 (.pointer (some ⟨v.tb j,0,none⟩))))(hof:D.off=false)(he:D.err j=0)(hW:WAt D off W) :
  Calls prog 149 #[.pointer (some ⟨b,0,none⟩)] w fun r w'=>r = .returned (.tuple #[.agg (wsN W),.int .i64 0])/\Below w.heap.size w w':=by
 have:=Qko h hj hd hof he hW.at8 hW.fit;rw[Fn (g:=fun i=>((W i:Nat):Int)) (fun i hi=>hW.cur i hi)]at this;exact this
def Qw8(W:Nat->Nat)(l:List UInt8):Int:=if Jr W l<16 then(Jr W l:Int)else -1
def Al(p:Nat->Bool)(e:Nat):Prop:=∀ j,j<e->p j=false
structure BxW(w:World)(A:Array Value)(wx:World):Prop where
 blk:Blk wx w.heap.size A 231
 bel:Below w.heap.size w wx
theorem BxW.next{A:Array Value}{wx wy:World}(h:BxW w A wx)(hb:Below wx.heap.size wx wy):BxW w A wy:=⟨h.blk.below hb,h.bel.trans (hb.mono h.bel.size)⟩
theorem Qr4(W:Nat->Nat)(e:Nat)(l:List UInt8)(h:W (4*e+3)≠0):(Yc W e&&Ws W e==l)=((enS (W (4*e)) (W (4*e+1)) (W (4*e+3))).toList==l):=by
 unfold Yc Ws enS;rw[if_neg h,Qav];simp[h]
theorem Qkn(W:Nat->Nat)(hW:∀ i,W i<18446744073709551616)(s:ByteArray):Calls prog 206 #[.agg (wsN W),.string s] w fun r w'=>r = .returned (.int .i64 (Qw8 W s.toList))/\Below w.heap.size w w':=by
 have HNM:=hid (fun(wx:World) (e:Nat)=>Lc (w:=wx) (W (4*e)) (W (4*e+1)) (W (4*e+2)) (W (4*e+3)) (hW _) (hW _));have HIX:=hid (fun(e:Nat) (he:e<16) (wx:World)=>Qso W e he wx);have HIA:=hid (Qaf W);have X0:Hid (BxW w (wsN W) (w.alloc (.cells (wsN W) 231))):=⟨Blk.new w _ _,Qa w _⟩;have HHIT:Hid (∀ e,e<16->(Yc W e&&Ws W e==s.toList)=true->(∀ j,j<e->(Yc W j&&Ws W j==s.toList)=false)->Jr W s.toList=e):=fun e he hp hn=>Ni he hp hn
 have HNO:Hid ((∀ e,e<16->(Yc W e&&Ws W e==s.toList)=false)->Jr W s.toList=16):=fun h=>Wj h
 have HEN:Hid (∀ e,W (4*e+3)≠0->(Yc W e&&Ws W e==s.toList)=((enS (W (4*e)) (W (4*e+1)) (W (4*e+3))).toList==s.toList)):=fun e h=>Qr4 W e _ h
 have HUS:Hid (∀ e,W (4*e+3)=0->(Yc W e&&Ws W e==s.toList)=false):=fun e h=>by unfold Yc;rw[h];rfl
 obtain⟨p,hp⟩:∃ p:Nat->Bool,(fun e=>Yc W e&&Ws W e==s.toList)=p:=⟨_,rfl⟩;have hp2:∀ e,(Yc W e&&Ws W e==s.toList)=p e:=fun e=>congrFun hp e
 simp only[hp2]at HHIT HNO HEN HUS;have HRV:Hid (Qw8 W s.toList=if Jr W s.toList<16 then(Jr W s.toList:Int)else -1):=rfl
 generalize Qw8 W s.toList=rv at *
 generalize Jr W s.toList=res at *
 generalize wsN W=A at *
 clear hp hp2 hW
 go_enter func206,ntmps206
 go_wp2_with (refine wpList_load_row rfl 231 (.tmp 2) rfl w.heap.size rfl 231 A (0,0) _ X0.out.blk underlying231 rfl HIA.out ?_)
 go_loopw [5,6,7,8,10] (fun _ _ _ _ y wr=>∃ e:Nat,e<=16/\y = .int .i64 e/\BxW w A wr/\Al p e) (fun _ _ _ _ y _=>16-(intOf y).toNat)
 case atStart=>exact⟨0,by omega,rfl,X0.out,fun j hj=>by omega⟩
 case round=>
  clear X0;obtain⟨e,he,rfl,hx,hno⟩:=hrel;have X:=hid hx;have NO:=hid hno
  clear hx hno
  by_cases hlt:e<16
  ·have he':(e:Int)<16:=by omega
   have hix:=fun wx=>HIX.out e hlt wx
   have HNE:=hid (fun wx=>HNM.out wx e);obtain⟨x0,hx0⟩:∃ x,W (4*e)=x:=⟨_,rfl⟩;obtain⟨x1,hx1⟩:∃ x,W (4*e+1)=x:=⟨_,rfl⟩;obtain⟨x2,hx2⟩:∃ x,W (4*e+2)=x:=⟨_,rfl⟩;obtain⟨x3,hx3⟩:∃ x,W (4*e+3)=x:=⟨_,rfl⟩;have hen:=HEN.out e;have hus:=HUS.out e;rw[hx0,hx1,hx2,hx3]at hix HNE;rw[hx0,hx1,hx3]at hen;rw[hx3]at hus;have HE:=hid hen;have HHE:=hid (HHIT.out e hlt)
   generalize enS x0 x1 x3=es at *
   have X1:=hid (X.out.next (Qa wr (.cells #[.int .u64 x0,.int .u64 x1,.int .u64 x2,.int .u64 x3] 230)));clear hx0 hx1 hx2 hx3 hen
   by_cases h3:x3=0
   ·have hb3:(x3 != 0)=false:=by simp[h3]
    have NO2:Hid (Al p (e+1)):=fun j hj=>by
     by_cases ej:j=e
     ·subst ej;exact hus h3
     ·exact NO.out j (by omega)
    rw[hb3]at HNE;clear h3 hus hb3 HE;go_wp2_with fail
    (with_reducible refine(HNE.out _).mono ?_)
    rintro e' w' ⟨rfl,b1⟩;have X2:=hid (X1.out.next b1);clear b1;go_wp2_with fail
    go_roundw
    case rel=>exact⟨e+1,by omega,by go_num,X2.out,NO2.out⟩
    case measure=>simp[intOf];omega
   ·have hb3:(x3 != 0)=true:=by simp[h3]
    have hpe:=HE.out h3;rw[hb3]at HNE;clear h3 hus hb3 HE
    cases hcmp:(es.toList==s.toList)
    ·have NO2:Hid (Al p (e+1)):=fun j hj=>by
      by_cases ej:j=e
      ·subst ej;rw[hpe];exact hcmp
      ·exact NO.out j (by omega)
     clear hpe;go_wp2_with fail
     (with_reducible refine(HNE.out _).mono ?_)
     rintro e' w' ⟨rfl,b1⟩;have X2:=hid (X1.out.next b1);clear b1;go_wp2_with fail
     go_roundw
     case rel=>exact⟨e+1,by omega,by go_num,X2.out,NO2.out⟩
     case measure=>simp[intOf];omega
    ·have HR:Hid (rv=e):=by show _=_;rw[HRV.out,HHE.out (by rw[hpe];exact hcmp) NO.out,if_pos hlt]
     clear hpe;go_wp2_with fail
     (with_reducible refine(HNE.out _).mono ?_)
     rintro e' w' ⟨rfl,b1⟩;have X2:=hid (X1.out.next b1);clear b1;go_wp2_with fail
     go_ret
     exact⟨(by rw[HR.out];first | done | rfl),X2.out.bel⟩
  ·obtain rfl:e=16:=by omega
   have HR:Hid (rv = -1):=by show _=_;rw[HRV.out,HNO.out NO.out,if_neg (by omega)]
   go_wp2_with fail
   go_ret
   exact⟨(by rw[HR.out];first | done | rfl),X.out.bel⟩
end
end

section
open Go.Maps
attribute [local go_sem ↓] Go.wp_at_zero Go.wp_at_succ
theorem Mn(w1:World)(old A:Array Value):∃ w2,(w1.alloc (.cells old 231)).setRow w1.heap.size A=w2/\Blk w2 w1.heap.size A 231/\Below w1.heap.size w1 w2:=
 ⟨_,rfl,setRow_heap _ _ _ A 231 (0,0) (Blk.new w1 _ _),below_setRow (Qa w1 _) (Nat.le_refl _) A⟩
structure DOn(w:World)(v:DV)(own:Nat->Option Qp)(D:Dev)(j b off:Nat)(W:Nat->Nat):Prop where
 dev:IsDev w v own D
 hj:j<8
 dir:Yg w b off (.iface 40 (.pointer (some ⟨v.tb j,0,none⟩)))
 of:D.off=false
 er:D.err j=0
 wat:WAt D off W
section
variable{w wx:World}{v:DV}{own:Nat->Option Qp}{D:Dev}{j b off:Nat}{W:Nat->Nat}
theorem DOn.next(h:DOn w v own D j b off W)(hb:Below w.heap.size w wx):DOn wx v own D j b off W:=⟨h.dev.below hb,h.hj,h.dir.next hb,h.of,h.er,h.wat⟩
theorem DOn.le(h:DOn w v own D j b off W):off<=262144:=by have:=h.dev.wf.le;have:=h.wat.fit;omega
theorem DOn.load(h:DOn w v own D j b off W):Calls prog 149 #[.pointer (some ⟨b,0,none⟩)] w fun r w'=>r = .returned (.tuple #[.agg (wsN W),.int .i64 0])/\Below w.heap.size w w':=Qt3 h.dev h.hj h.dir h.of h.er h.wat
theorem DOn.has(h:DOn w v own D j b off W):Calls prog 183 #[.pointer (some ⟨b,0,none⟩)] w fun r w'=>r = .returned (.bool false)/\w=w':=Qkp h.dir
theorem DOn.at'(h:DOn w v own D j b off W)(e k:Nat)(he:e<16)(hk:k<4):Calls prog 182 #[.pointer (some ⟨b,0,none⟩),.int .i64 e,.int .i64 k] w fun r w'=>r = .returned (.int .u64 ((off+32*e+8*k:Nat):Int))/\w=w':=Qba h.dir e k he hk h.le
end
end
end Go.Proofs.YtlhchkajjpefmaaGreatDoor
