/- Lemmas and walks, part 4: each theorem says what it proves; no condition beside its own. -/
import Derived.Test.YtlhchkajjpefmaaGreatDoorK3
import Derived.Deep.RegionLaw
set_option maxHeartbeats 16000000
set_option maxRecDepth 100000
namespace Go.Proofs.YtlhchkajjpefmaaGreatDoor
open Lib(hid)
open Go.RowKit Go.Proofs.Tryz
section
def Qq(f:Nat->Int)(i:Nat):Int:=f (i/8)/2 ^ (i%8*8)%256
theorem Q1c:(Tryz.prog.info? 5).map (fun i=>(i.zero,i.size,i.bytes))=some (some (.int .u8 0),1,1):=by kernel_rfl
section
variable{w:World}
theorem Qan(wx:World)(n:Nat)(hn:n<=1000000):(Instr.makeSlice 62 (.int .i64 n) (.int .i64 n)).run prog wx = .ok (.slice (some ⟨wx.heap.size,0,none⟩) n n) (wx.alloc (.cells (madeCells #[.int .u8 0] n) 5)):=by
 obtain⟨i0,hi,hz0,hz1,hz2⟩:=info_parts Q1c;have:=run_make (P:=prog) wx 62 5 i0 _ underlying62 hi hz0 .i64 .i64 n n (by omega) (by omega) (by rw[hz2];omega) (by omega);rw[hz1]at this;simpa [Value.cells]using this
theorem Qfv(wx:World)(n:Nat)(hn:n<=1000000):(Instr.makeSlice 56 (.int .i64 n) (.int .i64 n)).run prog wx = .ok (.slice (some ⟨wx.heap.size,0,none⟩) n n) (wx.alloc (.cells (madeCells #[.int .u64 0] n) 31)):=by
 obtain⟨i0,hi,hz0,hz1,hz2⟩:=info_parts Gv;have:=run_make (P:=prog) wx 56 31 i0 _ underlying56 hi hz0 .i64 .i64 n n (by omega) (by omega) (by rw[hz2];omega) (by omega);rw[hz1]at this;simpa [Value.cells]using this
theorem Mb(w:World)(t:TypeId)(k:IntKind)(n:Nat):Row (w.alloc (.cells (madeCells #[.int k 0] n) t)) w.heap.size n t (fun _ => .int k 0):=
 Row.new w _ t _ _ (fun i hi=>by simp[madeCells,hi,Nat.mod_one])
structure Ie(w:World)(f:Nat->Int)(N k:Nat)(wr:World):Prop where
 row:Row wr w.heap.size N 5 (fun i => .int .u8 (if i<k then Qq f i else 0))
 bel:Below w.heap.size w wr
theorem Ie.start(f:Nat->Int)(N:Nat):Ie w f N 0 (w.alloc (.cells (madeCells #[.int .u8 0] N) 5)):=
 ⟨(Mb w 5 .u8 N).congr (fun i _=>by simp),(Below.refl _ _).alloc (Nat.le_refl _) _⟩
theorem Ie.step{f:Nat->Int}{N k:Nat}{wr:World}(h:Ie w f N k wr):Ie w f N (k+1) (wr.setCell ⟨w.heap.size,k,none⟩ (.int .u8 (Qq f k))):=by
 refine⟨(h.row.set k (.int .u8 (Qq f k))).congr (fun i _ => ?_),h.bel.setCell (by simp) _⟩
 by_cases e:i=k
 ·subst e;simp
 ·simp only[e,if_false]
  by_cases e2:i<k
  ·rw[if_pos e2,if_pos (by omega)]
  ·rw[if_neg e2,if_neg (by omega)]
theorem Qet(sv:Value)(n:Nat)(f:Nat->Int)(h:Ql w 1 sv n ((List.range n).map fun i => .int .u64 (f i)))(h0:0<n)(hn:n<=32768)(hf:∀ i,i<n->0<=f i/\f i<18446744073709551616) :
  Calls prog 143 #[sv] w fun r w'=>r = .returned (.slice (some ⟨w.heap.size,0,none⟩) (8*n) (8*n))/\Row w' w.heap.size (8*n) 5 (fun i => .int .u8 (Qq f i))/\Below w.heap.size w w':=by
 obtain⟨_,a,c,rfl,hc,h2⟩:=h;have HR:=hid h2;have HF:=hid hf;clear h2 hf
 obtain⟨N,hN⟩:∃ N,8*n=N:=⟨_,rfl⟩;rw[hN];have q1:(n:Int)*8=N:=by omega
 have hmk:=fun(wx:World)=>Qan wx N (by omega)
 have hNb:N<=1000000:=by omega
 have HN:=hid hN;clear hN
 have M0:=hid (Ie.start (w:=w) f N)
 go_enter func143,ntmps143
 go_wp2_with fail
 go_loopw [4,11] (fun _ y wr=>∃ k:Nat,k<=N/\y = .int .i64 k/\Ie w f N k wr) (fun _ y _=>N-(intOf y).toNat)
 case atStart=>exact⟨0,by omega,rfl,M0.out⟩
 case round=>
  obtain⟨k,hk,rfl,hM⟩:=hrel;have M:=hid hM;clear M0
  by_cases hlt:k<N
  ·have hlt':(k:Int)<N:=by omega
   have hf1:=hM.row.frozen k;have hsz:w.heap.size<wr.heap.size:=hM.row.lt;have hcell:=hM.row.cell hlt;obtain⟨u0,hu0⟩:∃ u,wr.cell? ⟨w.heap.size,k,none⟩=some u:=⟨_,hcell⟩;obtain⟨d,hd⟩:∃ d,k/8=d:=⟨_,rfl⟩;obtain⟨r,hr⟩:∃ r,k%8=r:=⟨_,rfl⟩;have q2:(k:Int)/8=d:=by omega
   have q3:(k:Int)%8=r:=by omega
   have hdn:(d:Int)<n:=by have:=HN.out;omega
   have hr8:r<8:=by omega
   have hx:((List.range n).map fun i=>Value.int .u64 (f i))[d]? = some (.int .u64 (f d)):=by rw[List.getElem?_map,List.getElem?_range (by omega)];rfl
   obtain⟨b,o,rfl,h3⟩:=Zr HR.out hx;have c1:=(hM.bel.cell (p:=⟨b,o+d,none⟩) (World.block_lt_of_cell? _ _ (h3 d _ hx))).trans (h3 d _ hx);have F:=hid (HF.out d (by omega));have E:=hid (And.intro hd hr);clear hM hcell hx h3 hd hr;go_wp2_with fail
   exact⟨⟨k+1,by omega,by go_num,by rw[<- E.out.1,<- E.out.2];exact M.out.step⟩,by simp[intOf];omega⟩
  ·obtain rfl:k=N:=by omega
   go_wp2_with fail
   go_ret
   exact⟨rfl,M.out.row.congr (fun i hi=>by rw[if_pos hi]),M.out.bel⟩
end
def wv(b:Nat->Int)(d:Nat):Nat->Int
 | 0=>0
 | r+1=>wv b d r+b (8*d+r)*2 ^ (r*8)
def Zy(b:Nat->Int)(k i:Nat):Int:=wv b i (min 8 (k-8*i))
theorem Q3t(b:Nat->Int)(d:Nat):∀ r,(∀ j,j<r->0<=b (8*d+j)/\b (8*d+j)<256)->0<=wv b d r/\wv b d r<2 ^ (r*8):=by
 intro r
 induction r with
 | zero=>intro _;simp[wv]
 | succ r ih=>
  intro hb;obtain⟨h1,h2⟩:=ih (fun j hj=>hb j (by omega));obtain⟨h3,h4⟩:=hb r (by omega);have e:(2:Int) ^ ((r+1)*8)=2 ^ (r*8)*256:=by rw[show(r+1)*8=r*8+8 by omega,Int.pow_add];rfl
  rw[e];simp only[wv]
  generalize (2:Int) ^ (r*8)=P at *
  generalize b (8*d+r)=x at *
  have h5:x*P<=255*P:=Int.mul_le_mul_of_nonneg_right (by omega) (by omega);have h6:0<=x*P:=Int.mul_nonneg h3 (by omega);omega
theorem Qy7(f:Nat->Int)(d:Nat)(x:Nat)(hx:f d=x):∀ r,r<=8->wv (Qq f) d r=((x%2 ^ (r*8):Nat):Int):=by
 intro r
 induction r with
 | zero=>intro _;simp[wv,Nat.mod_one]
 | succ r ih=>
  intro hr;simp only[wv];rw[ih (by omega)];have e1:Qq f (8*d+r)=((x/2 ^ (r*8)%256:Nat):Int):=by
   unfold Qq;rw[show(8*d+r)/8=d by omega,show(8*d+r)%8=r by omega,hx];simp
  have e2:2 ^ ((r+1)*8)=2 ^ (r*8)*256:=by rw[show(r+1)*8=r*8+8 by omega,Nat.pow_add]
  rw[e1,e2,Nat.mod_mul];have e3:((2:Int) ^ (r*8))=((2 ^ (r*8):Nat):Int):=by simp
  rw[e3]
  generalize 2 ^ (r*8)=P
  rw[<- Int.natCast_mul,<- Int.natCast_add,Nat.mul_comm P]
theorem Vz(f:Nat->Int)(n i:Nat)(hi:i<n)(hf:0<=f i/\f i<18446744073709551616):Zy (Qq f) (8*n) i=f i:=by
 unfold Zy;rw[show min 8 (8*n-8*i)=8 by omega,Qy7 f i (f i).toNat (by omega) 8 (Nat.le_refl _)];rw[Nat.mod_eq_of_lt (by omega)];omega
theorem Qd9(b:Nat->Int)(i:Nat):Zy b 0 i=0:=by simp[Zy,wv]
theorem Qd8(b:Nat->Int)(k i:Nat):Zy b (k+1) i=if i=k/8 then Zy b k i+b k*2 ^ (k%8*8)else Zy b k i:=by
 unfold Zy
 by_cases e:i=k/8
 ·subst e
  rw[if_pos rfl,show min 8 (k+1-8*(k/8))=k%8+1 by omega,show min 8 (k-8*(k/8))=k%8 by omega];simp only[wv];rw[show 8*(k/8)+k%8=k by omega]
 ·rw[if_neg e]
  by_cases h:8*i+8<=k
  ·rw[show min 8 (k+1-8*i)=8 by omega,show min 8 (k-8*i)=8 by omega]
  ·rw[show min 8 (k+1-8*i)=0 by omega,show min 8 (k-8*i)=0 by omega]
theorem Qo2(a x r:Nat)(ha:a<2 ^ (r*8))(hx:x<256)(hr:r<8):bits BinOp.or IntKind.u64 (a:Int) (IntKind.u64.wrap ((x:Int)*2 ^ (r*8)))=(a:Int)+(x:Int)*2 ^ (r*8):=by
 have e3:((2:Int) ^ (r*8))=((2 ^ (r*8):Nat):Int):=by simp
 have hp:2 ^ (r*8)<=2 ^ 56:=Nat.pow_le_pow_right (by omega) (by omega);have h1:x*2 ^ (r*8)<18446744073709551616:=by
  have:x*2 ^ (r*8)<=255*2 ^ 56:=Nat.mul_le_mul (by omega) hp;omega
 rw[e3,<- Int.natCast_mul,IntWalk.u64_in _ (by omega),bits_or_u64_nat _ _ (by omega) h1];rw[Nat.mul_comm x,Nat.or_comm,<- Nat.two_pow_add_eq_or_of_lt ha,<- Int.natCast_add]
 congr 1;omega
section
variable{w:World}
structure Ig(w:World)(b:Nat->Int)(m k:Nat)(wr:World):Prop where
 row:Row wr w.heap.size m 31 (fun i => .int .u64 (Zy b k i))
 bel:Below w.heap.size w wr
theorem Ig.start(b:Nat->Int)(m:Nat):Ig w b m 0 (w.alloc (.cells (madeCells #[.int .u64 0] m) 31)):=
 ⟨(Mb w 31 .u64 m).congr (fun i _=>by rw[Qd9]),(Below.refl _ _).alloc (Nat.le_refl _) _⟩
theorem Ig.step{b:Nat->Int}{m k:Nat}{wr:World}(h:Ig w b m k wr):Ig w b m (k+1) (wr.setCell ⟨w.heap.size,k/8,none⟩ (.int .u64 (Zy b k (k/8)+b k*2 ^ (k%8*8)))):=by
 refine⟨(h.row.set (k/8) _).congr (fun i _ => ?_),h.bel.setCell (by simp) _⟩
 rw[Qd8]
 by_cases e:i=k/8
 ·subst e;simp
 ·simp[e]
theorem Wf(sv:Value)(n:Nat)(b:Nat->Int)(h:Ql w 1 sv (64*n) ((List.range (64*n)).map fun i => .int .u8 (b i)))(h0:0<n)(hn:n<=4096)(hb:∀ i,i<64*n->0<=b i/\b i<256) :
  Calls prog 45 #[sv] w fun r w'=>∃ v own,r = .returned (.tuple #[.pointer (some ⟨v.db,0,none⟩),.int .i64 0])/\IsDev w' v own (Dev.fresh n (Zy b (64*n)))/\(∀ k,own k≠none->w.heap.size<=k)/\Below w.heap.size w w':=by
 obtain⟨_,sa,sc,rfl,hsc,h2⟩:=h;have HR:=hid h2;have HB:=hid hb;clear h2 hb
 obtain⟨m,hm⟩:∃ m,8*n=m:=⟨_,rfl⟩;obtain⟨N,hN⟩:∃ N,64*n=N:=⟨_,rfl⟩;have HOF:=hid (fun(wx:World) (hx:Row wx w.heap.size m 31 (fun i => .int .u64 (Zy b N i)))=>Qo0 (w:=wx) w.heap.size m n (Zy b N) (by rw[hm];exact hx) h0 hn (by omega));rw[hm]at HOF;rw[hN]at HR HB ⊢;have q1:(N:Int)%64=0:=by omega
 have q2:(N:Int)/64=n:=by omega
 have q3:(N:Int)/8=m:=by omega
 have q4:((N:Int)==0)=false:=by simp;omega
 have q5:¬ (4096:Int)<n:=by omega
 have hmk:=fun(wx:World)=>Qfv wx m (by omega)
 have hNb:N<=1000000:=by omega
 have HM:=hid (And.intro hm hN);clear hm hN
 have M0:=hid (Ig.start (w:=w) b m)
 go_enter func45,ntmps45
 go_wp2_with fail
 go_loopw [5,6,26] (fun _ _ y wr=>∃ k:Nat,k<=N/\y = .int .i64 k/\Ig w b m k wr) (fun _ _ y _=>N-(intOf y).toNat)
 case atStart=>exact⟨0,by omega,rfl,M0.out⟩
 case round=>
  obtain⟨k,hk,rfl,hM⟩:=hrel;have M:=hid hM;clear M0
  by_cases hlt:k<N
  ·have hlt':(k:Int)<N:=by omega
   have hsz:w.heap.size<wr.heap.size:=hM.row.lt;obtain⟨d,hd⟩:∃ d,k/8=d:=⟨_,rfl⟩;obtain⟨r,hr⟩:∃ r,k%8=r:=⟨_,rfl⟩;have hf1:=hM.row.frozen d;have q6:(k:Int)/8=d:=by omega
   have q7:(k:Int)%8=r:=by omega
   have hdn:(d:Int)<m:=by have:=HM.out;omega
   have hr8:r<8:=by omega
   have hcell:=hM.row.cell (i:=d) (by omega);have hx:((List.range N).map fun i=>Value.int .u8 (b i))[k]? = some (.int .u8 (b k)):=by rw[List.getElem?_map,List.getElem?_range hlt];rfl
   obtain⟨bb,o,rfl,h3⟩:=Zr HR.out hx;have c1:=(hM.bel.cell (p:=⟨bb,o+k,none⟩) (World.block_lt_of_cell? _ _ (h3 k _ hx))).trans (h3 k _ hx);obtain⟨hb1,hb2⟩:=HB.out k hlt;have hor:bits BinOp.or IntKind.u64 (Zy b k d) (IntKind.u64.wrap (b k*2 ^ (r*8)))=Zy b k d+b k*2 ^ (r*8):=by
    have e1:Zy b k d=wv b d r:=by unfold Zy;rw[show min 8 (k-8*d)=r by omega]
    have e2:=Q3t b d r (fun j hj=>HB.out _ (by omega));rw[e1];obtain⟨a,ha⟩:∃ a:Nat,wv b d r=a:=⟨_,(Int.toNat_of_nonneg e2.1).symm⟩;obtain⟨x,hx⟩:∃ x:Nat,b k=x:=⟨_,(Int.toNat_of_nonneg hb1).symm⟩;rw[ha,hx];refine Qo2 a x r ?_ (by omega) hr8
    have e3:((2:Int) ^ (r*8))=((2 ^ (r*8):Nat):Int):=by simp
    rw[ha,e3]at e2;omega
   have HO:=hid hor;have E:=hid (And.intro hd hr);clear hM hx h3 hd hr;go_wp2_with fail
   exact⟨⟨k+1,by omega,by go_num,by rw[<- E.out.1,<- E.out.2];exact M.out.step⟩,by simp[intOf];omega⟩
  ·obtain rfl:k=N:=by omega
   have HF:=hid (HOF.out wr M.out.row);go_wp2_with fail
   (with_reducible refine HF.out.mono ?_)
   rintro e w1 ⟨v,own,rfl,_,_,hd,ho,hbl⟩;have HD:=hid (And.intro hd (And.intro ho hbl));clear hd ho hbl
   go_wp2_with fail
   go_ret2
   exact⟨v,own,rfl,HD.out.1,fun j hj=>by
    rcases HD.out.2.1 j hj with h | h
    ·omega
    ·exact Nat.le_trans M.out.bel.size h,M.out.bel.trans (HD.out.2.2.mono M.out.bel.size)⟩
end
end
section
def Dev.dirtyL(D:Dev):List Nat:=(List.range D.n).filter fun l=>decide (0<(D.hist l).length)
theorem Qhg(D:Dev)(hw:D.WF)(ks:Nat->Nat)(l k:Nat)(hl:l<D.n)(h0:ks l=0)(i:Nat):Yh ((D.hist l).take k) (D.img ks) i=D.img (fun m=>if m=l then k else ks m) i:=by
 show Qu _ (Qu ((D.hist (i/8)).take (ks (i/8))) (D.pers i) i) i=Qu ((D.hist (i/8)).take (if i/8=l then k else ks (i/8))) (D.pers i) i
 by_cases e:i/8=l
 ·rw[if_pos e,e,h0,List.take_zero];rfl
 ·rw[if_neg e]
  exact Zp _ _ _ (fun x hx=>by
   have:=(hw.line l hl x (List.mem_of_mem_take hx)).1;omega)
section
variable{w:World}{v:DV}{own:Nat->Option Qp}{D:Dev}
structure Mp(w:World)(D:Dev)(k:Nat)(sv:Value)(wr:World):Prop where
 acc:Acc w w.heap.size wr 3 1 sv ((List.range k).filter fun l=>decide (0<(D.hist l).length)).length (Zi ((List.range k).filter fun l=>decide (0<(D.hist l).length)))
theorem Qix{k:Nat}{sv:Value}{wr:World}(h:Mp w D k sv wr)(he:(D.hist k).length=0):Mp w D (k+1) sv wr:=by
 have e:(List.range (k+1)).filter (fun l=>decide (0<(D.hist l).length))=(List.range k).filter fun l=>decide (0<(D.hist l).length):=by
  rw[List.range_succ,List.filter_append];simp[he]
 exact⟨by rw[e];exact h.acc⟩
theorem Qmk{k:Nat}{sv:Value}{wr:World}(he:0<(D.hist k).length)
  (h:Acc w w.heap.size wr 3 1 sv (((List.range k).filter fun l=>decide (0<(D.hist l).length)).length+1) (Zi ((List.range k).filter fun l=>decide (0<(D.hist l).length)) ++ [.int .i64 k])):Mp w D (k+1) sv wr:=by
 have e:(List.range (k+1)).filter (fun l=>decide (0<(D.hist l).length))=((List.range k).filter fun l=>decide (0<(D.hist l).length)) ++ [k]:=by
  rw[List.range_succ,List.filter_append];simp[he]
 exact⟨by rw[e];exact h.congr (by simp) (by simp[Zi])⟩
theorem IsDev.hlen(h:IsDev w v own D){l:Nat}(hl:l<D.n):(D.hist l).length<=maxLen:=by
 obtain⟨hv,_,h2⟩:=Wo h
 rcases(h2 l hl).1.2 with ⟨_,h0⟩ | ⟨_,_,cap,_,_,_,h3,h4,_⟩
 ·rw[h0];unfold maxLen;omega
 ·exact Nat.le_trans h3 h4
theorem Ka(D:Dev)(k:Nat):((List.range k).filter fun l=>decide (0<(D.hist l).length)).length<=k:=by
 have:=List.length_filter_le (fun l=>decide (0<(D.hist l).length)) (List.range k);simpa using this
theorem At(h:IsDev w v own D) :
  Calls prog 24 #[.pointer (some ⟨v.db,0,none⟩)] w fun r w'=>∃ sv,r = .returned sv/\Acc w w.heap.size w' 3 1 sv D.dirtyL.length (Zi D.dirtyL):=by
 have hn:=h.wf.le;obtain⟨i0,hi0,hz0,hz1,hz2⟩:=info_parts Bi;have I:=hid (And.intro hi0 (And.intro hz0 (And.intro hz1 hz2)));clear hi0 hz0 hz1 hz2
 have H:=hid h;have HF:=hid (Ka D);have HS:Hid (∀ k sv wr,Mp w D k sv wr->(D.hist k).length=0->Mp w D (k+1) sv wr):=hid (fun k sv wr h1 h2=>Qix h1 h2);have HE:=hid (fun k sv wr h1 h2=>Qmk (w:=w) (D:=D) (k:=k) (sv:=sv) (wr:=wr) h1 h2);unfold Dev.dirtyL;have hd2:w.cell? ⟨v.db,2,none⟩=some (.slice (some ⟨v.lb,0,none⟩) D.n D.n):=h.dev.cell rfl;clear h
 generalize hN:D.n=n at *
 have HN:=hid hN;clear hN
 go_enter func24,ntmps24
 go_wp2_with fail
 go_loopw [3,4,12] (fun sv _ y wr=>∃ k:Nat,k<=n/\y = .int .i64 k/\Mp w D k sv wr) (fun _ _ y _=>n-(intOf y).toNat)
 case atStart=>exact⟨0,by omega,rfl,⟨Acc.nil w _ _ _ _ (Below.refl _ _) (Nat.le_refl _)⟩⟩
 case round=>
  obtain⟨k,hk,rfl,ha⟩:=hrel;obtain⟨la,lc,hsv⟩:=ha.acc.slice;subst hsv;have A:=hid ha;clear ha
  have d2:wr.cell? ⟨v.db,2,none⟩=some (.slice (some ⟨v.lb,0,none⟩) n n):=(A.out.acc.bel.cell (p:=⟨v.db,2,none⟩) H.out.dev.lt).trans hd2
  by_cases hlt:k<n
  ·have hlt':(k:Int)<n:=by omega
   obtain⟨hv,l1,l2⟩:=Wo H.out;have hlb:v.lb<w.heap.size:=by obtain⟨_,h1,_⟩:=H.out.lines;exact h1.lt
   obtain⟨ha,hc,hve⟩:=(l2 k (by rw[HN.out];exact hlt)).1.slice;have c1:=(A.out.acc.bel.cell (p:=⟨v.lb,k*2+1,none⟩) hlb).trans (l1 k (by rw[HN.out];exact hlt)).2;rw[hve]at c1;have hb:=H.out.hlen (l:=k) (by rw[HN.out];exact hlt);unfold maxLen at hb;have hf:=HF.out k;have HS1:=hid (HS.out k _ _ A.out);have HE1:=hid (HE.out k);clear l1 l2 hve hv hlb
   generalize hlen:(D.hist k).length=q at *
   clear hlen
   by_cases hq:0<q
   ·have hq':(0:Int)<q:=by omega
    have A2:=hid A.out.acc;have HE2:=hid (fun sv wr=>HE1.out sv wr hq)
    generalize hL:(List.range k).filter (fun l=>decide (0<(D.hist l).length))=L at *
    clear hL A;go_wp2_with (at_builtin;refine Qc _ rfl _ _ 60 rfl 3 i0 _ 1 8 underlying60 I.out.1 I.out.2.1 I.out.2.2.1 I.out.2.2.2 rfl (by decide) _ L.length (Zi L) rfl (by exact A2.out.own.alloc _) _ 1 _ rfl (by exact Ql.newAt _ _ _ 1 1 _ rfl rfl) (Qaw _ _) (by unfold maxLen;omega) (by omega) ?_)
    intro v1 w1 o1 g1 b1 n1;have A1:=hid (A2.out.next (Qa _ _) o1 g1 b1 (by simp));clear o1 g1 b1 n1
    go_wp2_with fail
    go_roundw
    case rel=>exact⟨k+1,by omega,by go_num,HE2.out _ _ A1.out⟩
    case measure=>simp[intOf];omega
   ·have hq':¬ (0:Int)<q:=by omega
    go_wp2_with fail
    go_roundw
    case rel=>exact⟨k+1,by omega,by go_num,HS1.out (by omega)⟩
    case measure=>simp[intOf];omega
  ·obtain rfl:k=n:=by omega
   go_wp2_with fail
   go_ret
   exact⟨_,rfl,A.out.acc⟩
theorem Dz{g c n:Nat}{f:Nat->Int}(h:Row w g (8*n) 31 (fun i => .int .u64 (f i)))(hc:8*n<=c)(h0:0<n)(hn:n<=4096)(hf:∀ i,0<=f i/\f i<18446744073709551616) :
  Calls prog 143 #[.slice (some ⟨g,0,none⟩) (8*n) c] w fun r w'=>r = .returned (.slice (some ⟨w.heap.size,0,none⟩) (64*n) (64*n))/\Row w' w.heap.size (64*n) 5 (fun i => .int .u8 (Qq f i))/\Below w.heap.size w w':=by
 have:=Qet (w:=w) (.slice (some ⟨g,0,none⟩) (8*n) c) (8*n) f ?_ (by omega) (by omega) (fun i _=>hf i)
 ·rwa [show 8*(8*n)=64*n by omega]at this
 ·refine⟨by simp,_,_,rfl,hc,.inr ⟨g,0,rfl,fun j u hu => ?_⟩⟩
  obtain⟨hj,e⟩:=List.getElem?_eq_some_iff.1 hu;have hj':j<8*n:=by simpa using hj
  rw[Nat.zero_add,h.cell hj',<- e];simp
end
end
section
open Go.Maps
section
variable{w:World}{v:DV}{own:Nat->Option Qp}{D:Dev}
def Qbw(w:World)(n:Nat)(f:Nat->Int)(r:Ending)(w':World):Prop:=
 r = .returned (.slice (some ⟨w.heap.size,0,none⟩) (64*n) (64*n))/\Row w' w.heap.size (64*n) 5 (fun i => .int .u8 (Qq f i))/\Below w.heap.size w w'
theorem Ss(h:IsDev w v own D)(hvb:D.VB):Calls prog 129 #[.pointer (some ⟨v.db,0,none⟩)] w (Qbw w D.n D.pers):=by
 have c1:w.cell? ⟨v.db,0,none⟩=some (.slice (some ⟨v.pb,0,none⟩) (8*D.n) v.pc):=h.dev.cell rfl;have HB:=hid (Dz h.pers h.pcs.1 h.wf.pos h.wf.le hvb.pers);clear h hvb
 go_enter func129,ntmps129
 go_wp2_with fail
 (with_reducible refine HB.out.mono ?_)
 rintro e w1 ⟨rfl,r1,b1⟩;have R1:=hid (And.intro r1 b1);clear r1 b1
 go_wp2_with fail
 go_ret
 exact⟨rfl,R1.out⟩
def Qjd(f:Nat->Int)(k:Nat):List Int:=(List.range k).map f
theorem Qvn{g n c:Nat}{t:TypeId}{f:Nat->Int}(h:Row w g n t (fun i => .int .u64 (f i)))(hc:n<=c):Ql w 1 (.slice (some ⟨g,0,none⟩) n c) n (Xb (Qjd f n)):=by
 refine⟨by simp[Xb,Qjd],_,_,rfl,hc,.inr ⟨g,0,rfl,fun j u hu => ?_⟩⟩
 have hj:j<n:=by
  rcases Nat.lt_or_ge j n with h | h
  ·exact h
  ·rw[List.getElem?_eq_none (by simp[Xb,Qjd];exact h)]at hu;cases hu
 have:u = .int .u64 (f j):=by simp[Xb,Qjd,hj]at hu;exact hu.symm
 rw[this,Nat.zero_add];exact h.cell hj
end
end

section
attribute [local go_sem ↓] Go.wp_at_zero Go.wp_at_succ
def Qm(bs:List Nat):Nat:=bs.foldl (· * ·) 1
theorem Fx(bs:List Nat)(b:Nat):Qm (bs ++ [b])=Qm bs*b:=by simp[Qm]
theorem Qhx(bs:List Nat)(h:∀ b∈bs,0<b)(k:Nat):Qm (bs.take k)<=Qm bs:=by
 have key:∀ (cs:List Nat) (q:Nat),(∀ b∈cs,0<b)->q<=cs.foldl (· * ·) q:=by
  intro cs
  induction cs with
  | nil=>intro q _;exact Nat.le_refl _
  | cons b cs ih=>
   intro q h;refine Nat.le_trans ?_ (ih (q*b) fun x hx=>h x (List.mem_cons_of_mem _ hx))
   exact Nat.le_mul_of_pos_right _ (h b (List.mem_cons_self ..))
 have e:Qm bs=(bs.drop k).foldl (· * ·) (Qm (bs.take k)):=by
  unfold Qm;rw[<- List.foldl_append,List.take_append_drop]
 rw[e];exact key _ _ fun b hb=>h b (List.mem_of_mem_drop hb)
def Qf(D:Dev):List Nat:=D.dirtyL.map fun l=>(D.hist l).length+1
theorem Mv(D:Dev):∀ b∈Qf D,0<b:=fun b hb=>by
 obtain⟨l,_,rfl⟩:=List.mem_map.1 hb;omega
theorem Qkb(bs:List Nat):∀ q,bs.foldl (· * ·) q=q*Qm bs:=by
 induction bs with
 | nil=>intro q;simp[Qm]
 | cons b bs ih=>
  intro q;show bs.foldl (· * ·) (q*b)=q*(bs.foldl (· * ·) (1*b))
  rw[ih,ih (1*b),Nat.one_mul,Nat.mul_assoc]
theorem Qka{bs:List Nat}{i b:Nat}(h:bs[i]? = some b):Qm (bs.drop i)=Qm (bs.drop (i+1))*b:=by
 obtain⟨hi,e⟩:=List.getElem?_eq_some_iff.1 h;rw[List.drop_eq_getElem_cons hi,e];show(bs.drop (i+1)).foldl (· * ·) (1*b)=_
 rw[Qkb,Nat.one_mul,Nat.mul_comm]
def Lx(bs:List Nat)(n i:Nat):Nat:=n/Qm (bs.drop (i+1))%bs.getD i 1
end

section
abbrev Qei:=(Nat->Int)×(Nat->List (Nat×Int))
def Yn(ws:List (Nat×Int))(l:Nat):List (Nat×Int):=ws.filter fun e=>e.1/64==l
theorem Lz(a b:List (Nat×Int))(l:Nat):Yn (a++b) l=Yn a l++Yn b l:=by simp[Yn]
def Qbs(fs:List Nat)(l:Nat):Bool:=fs.any fun o=>o/64==l
theorem Ft(fs:List Nat)(l:Nat):Qbs fs l=true↔∃ o∈fs,o/64=l:=by simp[Qbs]
def Sp(s:Qei)(g:List (Nat×Int)×List Nat):Qei:=
 (fun i=>if Qbs g.2 (i/8)=true then Qu (s.2 (i/8)++Yn g.1 (i/8)) (s.1 i) i else s.1 i,fun l=>if Qbs g.2 l=true then []else s.2 l++Yn g.1 l)
def Bl(s:Qei)(gs:List (List (Nat×Int)×List Nat)):Qei:=gs.foldl Sp s
def Qr2(s:Qei)(i:Nat):Int:=Qu (s.2 (i/8)) (s.1 i) i
theorem Qc5(ws:List (Nat×Int))(d:Int)(i:Nat):Qu (Yn ws (i/8)) d i=Qu ws d i:=Bs ws d i
theorem Qmf(s:Qei)(g:List (Nat×Int)×List Nat)(i:Nat):Qr2 (Sp s g) i=Qu g.1 (Qr2 s i) i:=by
 unfold Qr2 Sp;simp only
 split
 ·rw[Sl,Jc,Qc5]
 ·rw[Jc,Qc5]
theorem Qme(gs:List (List (Nat×Int)×List Nat)):∀ (s:Qei) (i:Nat),Qr2 (Bl s gs) i=Qu (gs.flatMap (·.1)) (Qr2 s i) i:=by
 induction gs with
 | nil=>intro s i;rfl
 | cons g gs ih=>
  intro s i;show Qr2 (Bl (Sp s g) gs) i=_
  rw[ih,Qmf,List.flatMap_cons,Jc]
structure GX(D:Dev)(j n:Nat)(s:Qei)(ws:List (Nat×Int))(fs:List Nat):Prop where
 on:OnJ D j n
 pers:∀ i,D.pers i=s.1 i
 hist:∀ l,D.hist l=s.2 l++Yn ws l
 yes:∀ o∈fs,D.note j (o/64)=some (D.done (o/64)+(D.hist (o/64)).length)
 no:∀ l,(∀ o∈fs,o/64≠l)->D.note j l=none
section
variable{D:Dev}{j n:Nat}{s:Qei}{ws:List (Nat×Int)}{fs:List Nat}
theorem GX.tick(h:GX D j n s ws fs):GX D.tick j n s ws fs:=⟨⟨h.on.n,h.on.off,h.on.err⟩,h.pers,h.hist,h.yes,h.no⟩
theorem GX.store(h:GX D j n s ws []){k:Nat}(hm:D.may (k+1))(off:Nat)(x:Int)(h8:off%8=0)(hl:off<64*n):GX (D.store j off x) j n s (ws ++ [(off,x)]) []/\(D.store j off x).may k:=by
 obtain⟨h1,h2,h3,h4⟩:=Jv h.on hm;have hw:D.wordB off=true:=by simp[Dev.wordB,h.on.n,h8,hl]
 have e:D.store j off x=D.tick.put off x:=by unfold Dev.store;rw[hw,h1,h2];rfl
 have t:=h.tick;rw[e];refine⟨⟨⟨t.on.n,t.on.off,t.on.err⟩,t.pers,fun l => ?_,fun o ho=>by simp at ho,t.no⟩,h3⟩
 show(if l=off/64 then D.tick.hist l ++ [(off,x)]else D.tick.hist l)=_
 rw[Lz,t.hist]
 by_cases e:l=off/64
 ·rw[if_pos e];subst e;simp[Yn]
 ·rw[if_neg e]
  have:Yn [(off,x)] l = []:=by simp[Yn];omega
  rw[this,List.append_nil]
theorem GX.flush(h:GX D j n s ws fs){k:Nat}(hm:D.may (k+1))(off:Nat)(hl:off<64*n):GX (D.flush j off) j n s ws (fs ++ [off])/\(D.flush j off).may k:=by
 obtain⟨h1,h2,h3,h4⟩:=Jv h.on hm;have hw:D.inB off=true:=by simp[Dev.inB,h.on.n,hl]
 have e:D.flush j off=D.tick.jot j (off/64):=by unfold Dev.flush;rw[hw,h1,h2];rfl
 have t:=h.tick;rw[e];refine⟨⟨⟨t.on.n,t.on.off,t.on.err⟩,t.pers,t.hist,fun o ho => ?_,fun l hl => ?_⟩,h3⟩
 ·show(if j=j/\o/64=off/64 then some (D.tick.done (off/64)+(D.tick.hist (off/64)).length)else D.tick.note j (o/64))=_
  by_cases e:o/64=off/64
  ·rw[if_pos ⟨rfl,e⟩,e];rfl
  ·rw[if_neg (fun h=>e h.2)]
   rcases List.mem_append.1 ho with h' | h'
   ·exact t.yes o h'
   ·simp at h';subst h';exact absurd rfl e
 ·show(if j=j/\l=off/64 then some (D.tick.done (off/64)+(D.tick.hist (off/64)).length)else D.tick.note j l)=_
  rw[if_neg (fun h=>hl off (by simp) h.2.symm)];exact t.no l (fun o ho=>hl o (by simp[ho]))
theorem GX.fence(h:GX D j n s ws fs){k:Nat}(hm:D.may (k+1)):GX (D.fence j) j n (Sp s (ws,fs)) [] []/\(D.fence j).may k:=by
 obtain⟨h1,h2,h3,h4⟩:=Jv h.on hm;have e:D.fence j=D.tick.sync j:=by unfold Dev.fence;rw[h1,h2];rfl
 have t:=h.tick;have howed:∀ l,D.tick.owed j l=if Qbs fs l=true then(D.tick.hist l).length else 0:=fun l=>by
  unfold Dev.owed
  by_cases hf:∃ o∈fs,o/64=l
  ·rw[if_pos ((Ft fs l).2 hf)]
   obtain⟨o,ho,rfl⟩:=hf;rw[t.yes o ho];simp
  ·rw[if_neg (fun h=>hf ((Ft fs l).1 h)),t.no l (fun o ho e=>hf ⟨o,ho,e⟩)]
 rw[e];refine⟨⟨⟨t.on.n,t.on.off,t.on.err⟩,fun i => ?_,fun l => ?_,fun o ho=>by simp at ho,fun l _ => ?_⟩,h3⟩
 ·show Qu ((D.tick.hist (i/8)).take (D.tick.owed j (i/8))) (D.tick.pers i) i=(if Qbs fs (i/8)=true then Qu (s.2 (i/8)++Yn ws (i/8)) (s.1 i) i else s.1 i)
  rw[howed,t.pers]
  split
  ·rw[List.take_length,t.hist]
  ·rw[List.take_zero];rfl
 ·show(D.tick.hist l).drop (D.tick.owed j l)=(if Qbs fs l=true then []else s.2 l++Yn ws l) ++ []
  rw[howed,List.append_nil]
  split
  ·rw[List.drop_length]
  ·rw[List.drop_zero,t.hist]
 ·show(if j=j then none else D.tick.note j l)=none
  simp
theorem Rr(l:List (Nat×Int)):∀ {D:Dev} {ws:List (Nat×Int)} {k:Nat},GX D j n s ws []->D.may (l.length+k)->(∀ e∈l,e.1%8=0/\e.1<64*n) ->
  GX (D.run j (l.map fun e=>(1,e.1,e.2))) j n s (ws++l) []/\(D.run j (l.map fun e=>(1,e.1,e.2))).may k:=by
 induction l with
 | nil=>intro D ws k h hm _;exact⟨by simpa [Dev.run]using h,by simpa [Dev.run]using hm⟩
 | cons e l ih=>
  intro D ws k h hm hl;obtain⟨h1,h2⟩:=h.store (k:=l.length+k) (by simp at hm;exact hm.mono (by omega)) e.1 e.2 (hl e (by simp)).1 (hl e (by simp)).2;have:=ih h1 h2 (fun x hx=>hl x (by simp[hx]));simp only[List.append_assoc,List.singleton_append]at this;exact this
theorem Pi(l:List Nat):∀ {D:Dev} {fs:List Nat} {k:Nat},GX D j n s ws fs->D.may (l.length+k)->(∀ o∈l,o<64*n) ->
  GX (D.run j (l.map fun o=>(2,o,0))) j n s ws (fs++l)/\(D.run j (l.map fun o=>(2,o,0))).may k:=by
 induction l with
 | nil=>intro D fs k h hm _;exact⟨by simpa [Dev.run]using h,by simpa [Dev.run]using hm⟩
 | cons e l ih=>
  intro D fs k h hm hl;obtain⟨h1,h2⟩:=h.flush (k:=l.length+k) (by simp at hm;exact hm.mono (by omega)) e (hl e (by simp));have:=ih h1 h2 (fun x hx=>hl x (by simp[hx]));simp only[List.append_assoc,List.singleton_append]at this;exact this
def Wm(n:Nat)(g:List (Nat×Int)×List Nat):Prop:=(∀ e∈g.1,e.1%8=0/\e.1<64*n)/\∀ o∈g.2,o<64*n
theorem Qpw(g:List (Nat×Int)×List Nat)(h:GX D j n s [] [])(hg:Wm n g)(k:Nat)(hk:k<(Zu g).length)(hm:D.may k) :
  ∃ ws fs,ws <+: g.1/\GX (D.run j ((Zu g).take k)) j n s ws fs:=by
 rw[Vx]at hk;have hs:=hg.1
 by_cases h1:k<=g.1.length
 ·have e:(Zu g).take k=(g.1.take k).map fun e=>(1,e.1,e.2):=by
   unfold Zu;rw[List.append_assoc,List.take_append_of_le_length (by simpa using h1),List.map_take]
  have hl:(g.1.take k).length=k:=by rw[List.length_take];omega
  obtain⟨h2,_⟩:=Rr (k:=0) (g.1.take k) h (by rw[hl];exact hm) (fun e he=>hs e (List.mem_of_mem_take he));rw[e];exact⟨g.1.take k,[],List.take_prefix _ _,by simpa using h2⟩
 ·have e:(Zu g).take k=(g.1.map fun e=>(1,e.1,e.2))++(g.2.take (k-g.1.length)).map fun o=>(2,o,0):=by
   unfold Zu;rw[List.append_assoc,List.take_append,List.take_of_length_le (by simp;omega),List.length_map,List.take_append_of_le_length (by simp;omega),List.map_take]
  obtain⟨h2,h3⟩:=Rr (k:=k-g.1.length) g.1 h (hm.mono (by omega)) hs;have hl:(g.2.take (k-g.1.length)).length=k-g.1.length:=by rw[List.length_take];omega
  obtain⟨h4,_⟩:=Pi (k:=0) (g.2.take (k-g.1.length)) h2 (by rw[hl];exact h3) (fun o ho=>hg.2 o (List.mem_of_mem_take ho));rw[e,Dev.run_append];exact⟨g.1,_,List.prefix_refl _,by simpa using h4⟩
theorem Qkr(g:List (Nat×Int)×List Nat)(h:GX D j n s [] [])(hg:Wm n g)(k:Nat)(hm:D.may ((Zu g).length+k)) :
  GX (D.run j (Zu g)) j n (Sp s g) [] []/\(D.run j (Zu g)).may k:=by
 rw[Vx]at hm;obtain⟨h2,h3⟩:=Rr (k:=g.2.length+1+k) g.1 h (hm.mono (by omega)) hg.1;obtain⟨h4,h5⟩:=Pi (k:=1+k) g.2 h2 (h3.mono (by omega)) hg.2;obtain⟨h6,h7⟩:=h4.fence (k:=k) (h5.mono (by omega));have e:D.run j (Zu g)=((D.run j (g.1.map fun e=>(1,e.1,e.2))).run j (g.2.map fun o=>(2,o,0))).fence j:=by
  unfold Zu;rw[Dev.run_snoc,Dev.run_append];rfl
 rw[e];exact⟨by simpa using h6,h7⟩
structure Q9h(D:Dev)(j n:Nat)(s:Qei)(gs:List (List (Nat×Int)×List Nat))(a:Nat)(ws:List (Nat×Int)):Prop where
 le:a<=gs.length
 pre:∃ t,(gs[a]?.map (·.1)).getD []=ws++t
 grp:∃ fs,GX D j n (Bl s (gs.take a)) ws fs
theorem Qh3(gs:List (List (Nat×Int)×List Nat)):∀ {D:Dev} {s:Qei} (k:Nat),GX D j n s [] []->(∀ g∈gs,Wm n g)->k<=(Qi gs).length->D.may k->∃ a ws,Q9h (D.run j ((Qi gs).take k)) j n s gs a ws /\
  (k=(Qi gs).length->a=gs.length/\ws = []/\GX (D.run j ((Qi gs).take k)) j n (Bl s gs) [] []):=by
 induction gs with
 | nil=>
  intro D s k h _ hk _;have:k=0:=by simpa [Qi]using hk
  subst this;exact⟨0,[],⟨Nat.le_refl _,⟨[],rfl⟩,⟨[],h⟩⟩,fun _=>⟨rfl,rfl,h⟩⟩
 | cons g gs ih=>
  intro D s k h hg hk hm;have hgl:Qi (g::gs)=Zu g++Qi gs:=by simp[Qi]
  rw[hgl]at hk ⊢;rw[List.length_append]at hk
  by_cases h1:k<(Zu g).length
  ·rw[List.take_append_of_le_length (by omega)]
   obtain⟨ws,fs,⟨t,ht⟩,hG⟩:=Qpw g h (hg g (by simp)) k h1 hm;exact⟨0,ws,⟨Nat.zero_le _,⟨t,by simp[ht]⟩,⟨fs,hG⟩⟩,fun e=>by rw[List.length_append]at e;omega⟩
  ·rw[List.take_append,List.take_of_length_le (by omega),Dev.run_append]
   obtain⟨h2,h3⟩:=Qkr g h (hg g (by simp)) (k-(Zu g).length) (hm.mono (by omega));obtain⟨a,ws,hF,hE⟩:=ih (k-(Zu g).length) h2 (fun x hx=>hg x (by simp[hx])) (by omega) h3;refine⟨a+1,ws,⟨by have:=hF.le;simp;omega,by simpa using hF.pre,?_⟩,fun e => ?_⟩
   ·obtain⟨fs,hG⟩:=hF.grp
    exact⟨fs,by simpa [Bl]using hG⟩
   ·obtain⟨e1,e2,e3⟩:=hE (by rw[List.length_append]at e;omega)
    exact⟨by simp[e1],e2,e3⟩
theorem Qf0{gs:List (List (Nat×Int)×List Nat)}(h:∀ g∈gs,Wm n g):okP n (Qi gs):=by
 intro e he;obtain⟨g,hg,he⟩:=List.mem_flatMap.1 he;have hk:=h g hg;unfold Zu at he
 rcases List.mem_append.1 he with h1 | h1
 ·rcases List.mem_append.1 h1 with h2 | h2
  ·obtain⟨x,hx,rfl⟩:=List.mem_map.1 h2;exact .inl ⟨rfl,hk.1 x hx⟩
  ·obtain⟨x,hx,rfl⟩:=List.mem_map.1 h2;exact .inr (.inl ⟨rfl,hk.2 x hx⟩)
 ·simp at h1;subst h1;exact .inr (.inr rfl)
inductive Qvy (D D':Dev) (j n:Nat) (s:Qei) (gs:List (List (Nat×Int)×List Nat)):Prop where
 | all (on:GX D' j n (Bl s gs) [] []) (armed:D'.armed=D.armed) (left:D'.left=if D.armed then D.left-(Qi gs).length else D.left):Qvy D D' j n s gs
 | cut (off:D'.off=true) (err:D'.err j=3) (hn:D'.n=n) (a:Nat) (ws:List (Nat×Int)) (le:a<=gs.length) (pre:∃ t,(gs[a]?.map (·.1)).getD []=ws++t)
   (pers:∀ i,D'.pers i=(Bl s (gs.take a)).1 i) (hist:∀ l,D'.hist l=(Bl s (gs.take a)).2 l++Yn ws l) (armed:D.armed=true) (left:D.left<(Qi gs).length):Qvy D D' j n s gs
theorem Qpv{gs:List (List (Nat×Int)×List Nat)}(h:GX D j n s [] [])(hg:∀ g∈gs,Wm n g):Qvy D (D.run j (Qi gs)) j n s gs:=by
 have hok:=Qf0 hg
 by_cases hm:D.may (Qi gs).length
 ·obtain⟨a,ws,_,hE⟩:=Qh3 gs (Qi gs).length h hg (Nat.le_refl _) hm
  have:=(hE rfl).2.2;rw[List.take_length]at this
  rcases hm with h1 | h1
  ·obtain⟨h2,h3⟩:=Ga _ h.on h1 hok
   exact .all this (by rw[h2,h1]) (by rw[h3,h1];rfl)
  ·by_cases ha:D.armed=true
   ·obtain⟨_,h2,h3⟩:=Ah _ h.on ha h1 hok
    exact .all this (by rw[h2,ha]) (by rw[h3,ha];rfl)
   ·have ha':D.armed=false:=by simpa using ha
    obtain⟨h2,h3⟩:=Ga _ h.on ha' hok;exact .all this (by rw[h2,ha']) (by rw[h3,ha'];rfl)
 ·have ha:D.armed=true:=by
   cases e:D.armed
   ·exact absurd (.inl e) hm
   ·rfl
  have hl:D.left<(Qi gs).length:=Nat.lt_of_not_le (fun h=>hm (.inr h));obtain⟨a,ws,hF,_⟩:=Qh3 gs D.left h hg (by omega) (.inr (Nat.le_refl _));have htl:((Qi gs).take D.left).length=D.left:=by rw[List.length_take];omega
  obtain⟨h1,h2,h3⟩:=Ah ((Qi gs).take D.left) h.on ha (by omega) (fun e he=>hok e (List.mem_of_mem_take he));obtain⟨fs,hG⟩:=hF.grp
  generalize hD1:D.run j ((Qi gs).take D.left)=D1 at *
  obtain⟨e,rest,hr⟩:∃ e rest,(Qi gs).drop D.left=e::rest:=by
   cases hd:(Qi gs).drop D.left with
   | nil=>have:=congrArg List.length hd;simp at this;omega
   | cons e rest=>exact⟨e,rest,rfl⟩
  have hmem:∀ x∈e::rest,(x.1=1/\x.2.1%8=0/\x.2.1<64*n)\/(x.1=2/\x.2.1<64*n)\/x.1=3:=fun x hx=>hok x (List.mem_of_mem_drop (by rw[hr];exact hx))
  have hrun:D.run j (Qi gs)=({D1 with off:=true}:Dev).setErr j 3:=by
   rw[<- List.take_append_drop D.left (Qi gs),Dev.run_append,hD1,hr];show(D1.step j e).run j rest=_
   rw[Qh6 h1 h2 (by rw[h3,htl];omega) (hmem e (by simp))];exact Qpz rest rfl (by simp[Dev.setErr]) h1.n (fun x hx=>hmem x (by simp[hx]))
  rw[hrun];exact .cut rfl (by simp[Dev.setErr]) h1.n a ws hF.le hF.pre hG.pers hG.hist ha hl
end
end

section
end

section
def Vk(f:Nat->Int)(ended:Bool):Bool:=if f 8=0 then !ended else decide (f 0=7)&&decide (f 16=7)
def ksD(D:Dev)(n l:Nat):Nat:=Lx (Qf D) n (D.dirtyL.idxOf l)
def Vy(D:Dev)(n:Nat):Nat->Int:=D.img (ksD D n)
theorem Gq(D:Dev)(l:Nat):l∈D.dirtyL↔l<D.n/\D.hist l ≠ []:=by
 unfold Dev.dirtyL;simp[List.length_pos_iff]
theorem Qnk{D:Dev}{n:Nat}{ks:Nat->Nat}(h:∀ i l:Nat,D.dirtyL[i]? = some l->ks l=Lx (Qf D) n i)(i:Nat)(hi:i/8<D.n):D.img ks i=Vy D n i:=by
 unfold Vy Dev.img
 by_cases hh:D.hist (i/8) = []
 ·rw[hh,List.take_nil,List.take_nil]
 ·have hm:=(Gq D (i/8)).2 ⟨hi,hh⟩
  have hlt:=List.idxOf_lt_length_iff.2 hm;have he:D.dirtyL[D.dirtyL.idxOf (i/8)]? = some (i/8):=by rw[List.getElem?_eq_getElem hlt,List.getElem_idxOf hlt]
  rw[h _ _ he]
  rfl
theorem Bf{f g:Nat->Int}(h:∀ i,i<32->f i=g i)(e:Bool):Vk f e=Vk g e:=by
 unfold Vk;rw[h 8 (by omega),h 0 (by omega),h 16 (by omega)]
def Qlx(D:Dev)(ended:Bool):Option Nat:=(List.range (Qm (Qf D))).find? fun n => !(Vk (Vy D n) ended)
theorem Qm1{P:Nat}{p:Nat->Bool}{i:Nat}(hi:i<P)(hp:p i=true)(hl:∀ j,j<i->p j=false):(List.range P).find? p=some i:=by
 rw[List.find?_eq_some_iff_getElem];refine⟨hp,i,by simpa using hi,by simp,fun j hj => ?_⟩
 simp[hl j hj]
theorem Qm2{P:Nat}{p:Nat->Bool}(hl:∀ j,j<P->p j=false):(List.range P).find? p=none:=by
 rw[List.find?_eq_none];intro x hx;rw[hl x (List.mem_range.1 hx)];simp
theorem Qwm{D:Dev}{e:Bool}{i:Nat}(hi:i<Qm (Qf D))(hp:Vk (Vy D i) e=false)(hl:∀ j,j<i->Vk (Vy D j) e=true):Qlx D e=some i:=
 Qm1 hi (by simp[hp]) (fun j hj=>by simp[hl j hj])
theorem Qwn{D:Dev}{e:Bool}(hl:∀ j,j<Qm (Qf D)->Vk (Vy D j) e=true):Qlx D e=none:=Qm2 (fun j hj=>by simp[hl j hj])
def fndL(D0:Dev)(q:List (Nat×Nat×Int))(limit:Nat):Nat->Nat->Nat×Nat×Nat
 | 0,_=>(0,0,1)
 | m+1,k=>
  if limit<Qm (Qf (D0.run 0 (q.take k)))then(0,0,2)
  else match Qlx (D0.run 0 (q.take k)) (decide (k=q.length))with
   | some n=>(k,n,0)
   | none=>fndL D0 q limit m (k+1)
def fnd(D0:Dev)(q:List (Nat×Nat×Int))(limit:Nat):Nat×Nat×Nat:=fndL D0 q limit (q.length+1) 0
theorem Qhd{D0:Dev}{q:List (Nat×Nat×Int)}{limit m k:Nat}(h:limit<Qm (Qf (D0.run 0 (q.take k)))):fndL D0 q limit (m+1) k=(0,0,2):=by
 unfold fndL;rw[if_pos h]
theorem Qm9{D0:Dev}{q:List (Nat×Nat×Int)}{limit m k n:Nat}(h:¬ limit<Qm (Qf (D0.run 0 (q.take k))))(hb:Qlx (D0.run 0 (q.take k)) (decide (k=q.length))=some n):fndL D0 q limit (m+1) k=(k,n,0):=by
 unfold fndL;rw[if_neg h,hb]
theorem Qhe{D0:Dev}{q:List (Nat×Nat×Int)}{limit m k:Nat}(h:¬ limit<Qm (Qf (D0.run 0 (q.take k))))(hb:Qlx (D0.run 0 (q.take k)) (decide (k=q.length))=none):fndL D0 q limit (m+1) k=fndL D0 q limit m (k+1):=by
 show(if limit<Qm (Qf (D0.run 0 (q.take k)))then(0,0,2)else match Qlx (D0.run 0 (q.take k)) (decide (k=q.length))with | some n=>(k,n,0) | none=>fndL D0 q limit m (k+1))=_
 rw[if_neg h,hb]
end

section
theorem Yf(l:List (Nat×Nat×Int)):∀ (k:Nat) (e:Nat×Nat×Int),l[k]? = some e->(Qd l)[k*3]? = some (.int .u8 e.1)/\(Qd l)[k*3+1]? = some (.int .u64 e.2.1)/\(Qd l)[k*3+2]? = some (.int .u64 e.2.2):=by
 induction l with
 | nil=>intro k e h;simp at h
 | cons x l ih=>
  intro k e he;have hf:Qd (x::l) = .int .u8 x.1 :: .int .u64 x.2.1 :: .int .u64 x.2.2::Qd l:=rfl
  cases k with
  | zero=>simp at he;subst he;simp[hf]
  | succ k=>
   have:=ih k e (by simpa using he);rw[hf,show(k+1)*3=k*3+1+1+1 from by omega];simpa using this
theorem Ll(l:List (Nat×Nat×Int))(k:Nat)(e:Nat×Nat×Int)(h:l[k]? = some e):l.take (k+1)=l.take k ++ [e]:=by rw[List.take_add_one,h];rfl
section
variable{w:World}{v:DV}{own:Nat->Option Qp}{D:Dev}{j:Nat}
theorem Qr.start{w1:World}{D':Dev}(o:Obj)(h:Qr v own (w.alloc o) D' w1):Qr v own w D' w1:=by
 obtain⟨own',h1,h2,h3⟩:=h;exact⟨own',h1,fun k hk=>h2 k (by simp;omega),((Upd.refl _ w).alloc o).trans h3 (fun _ _ h=>h)⟩
theorem Qfa(h:IsDev w v own D)(hj:j<8)(e:Nat×Nat×Int)(h1:1<=e.1)(h3:e.1<=3)(ho:e.2.1<18446744073709551616)(hx:D.exec<4294967296) :
  Calls prog 39 #[.agg #[.int .u8 e.1,.int .u64 e.2.1,.int .u64 e.2.2],.iface 40 (.pointer (some ⟨v.tb j,0,none⟩))] w fun r w'=>r = .returned (.tuple #[])/\Qr v own w (D.step j e) w':=by
 obtain⟨op,off,x⟩:=e;have hm1:=Fv ⟨v.tb j,0,none⟩;have hm2:=Nn ⟨v.tb j,0,none⟩;have hm3:=Nm ⟨v.tb j,0,none⟩
 have HS:=hid (fun o=>Mf (h.alloc o) hj off x hx);have HF:=hid (fun o=>Qcr (h.alloc o) hj off ho hx);have HN:=hid (fun o=>Qck (h.alloc o) hj hx);clear h;simp only at h1 h3 ho ⊢;obtain rfl | rfl | rfl:op=1\/op=2\/op=3:=by omega
 ·go_enter func39,ntmps39
  go_wp2_with fail
  (with_reducible refine(HS.out _).mono ?_)
  rintro e w1 ⟨rfl,hp⟩;have HP:=hid hp;clear hp
  go_wp2_with fail
  go_end0
  exact⟨rfl,HP.out.start⟩
 ·go_enter func39,ntmps39
  go_wp2_with fail
  (with_reducible refine(HF.out _).mono ?_)
  rintro e w1 ⟨rfl,hp⟩;have HP:=hid hp;clear hp
  go_wp2_with fail
  go_end0
  exact⟨rfl,HP.out.start⟩
 ·go_enter func39,ntmps39
  go_wp2_with fail
  (with_reducible refine(HN.out _).mono ?_)
  rintro e w1 ⟨rfl,hp⟩;have HP:=hid hp;clear hp
  go_wp2_with fail
  go_end0
  exact⟨rfl,HP.out.start⟩
theorem Es(pv:Value)(l:List (Nat×Nat×Int))(hp:Ql w 3 pv l.length (Qd l))(hi:Qz l)(hl:l.length<=100000) :
  Calls prog 38 #[pv] w fun r w'=>r = .returned (.bool true)/\Below w.heap.size w w':=by
 have H:=hid hp;have HI:=hid hi;clear hi
 obtain⟨_,a,c,rfl,hc,_⟩:=hp
 generalize hn:l.length=n at *
 have HN:=hid hn;clear hn
 go_enter func38,ntmps38
 go_wp2_with fail
 go_loopw [7] (fun y wr=>∃ k:Nat,k<=n/\y = .int .i64 k/\Below w.heap.size w wr) (fun y _=>n-(intOf y).toNat)
 case atStart=>exact⟨0,by omega,rfl,Below.refl _ _⟩
 case round=>
  obtain⟨k,hk,rfl,hb⟩:=hrel;have HB:=hid hb;clear hb
  by_cases hlt:k<n
  ·have hk':(k:Int)<n:=by omega
   obtain⟨e,he⟩:∃ e,l[k]? = some e:=⟨_,List.getElem?_eq_getElem (by rw[HN.out];exact hlt)⟩;obtain⟨_,a',c',e',_,hE⟩:=H.out.below HB.out
   cases e'
   have hg:=Yf l k e he;obtain⟨eb,eo,rfl,hE2⟩:=Zr hE hg.1;have c1:=hE2 _ _ hg.1;have c2:=hE2 _ _ hg.2.1;have c3:=hE2 _ _ hg.2.2
   rw[<- Nat.add_assoc]at c2 c3;obtain⟨i1,i2,_⟩:=HI.out e (List.mem_of_getElem? he);clear hE hE2 he hg;obtain⟨op,off,x⟩:=e;simp only at c1 c2 c3 i1 i2;have i1':¬ (op:Int)<1:=by omega
   have i2':¬ (3:Int)<(op:Int):=by omega
   go_wp2_with fail
   go_roundw
   case rel=>exact⟨k+1,by omega,by go_num,HB.out.trans ((Qa wr _).mono HB.out.size)⟩
   case measure=>simp[intOf];omega
  ·go_wp2_with fail
   go_ret
   exact⟨rfl,HB.out⟩
structure Qwd(w:World)(v:DV)(own:Nat->Option Qp)(D:Dev)(j:Nat)(l:List (Nat×Nat×Int))(k:Nat)(wr:World):Prop where
 post:Qr v own w (D.run j (l.take k)) wr
theorem Qr.next{own1:Nat->Option Qp}{D2:Dev}{w1 w2:World}(ho:∀ k,k<w.heap.size->own1 k=own k)(hu:Upd (fun k=>own k≠none) w w1)(h:Qr v own1 w1 D2 w2):Qr v own w D2 w2:=Qr.trans hu.size ho hu h
theorem Km(h:IsDev w v own D)(hj:j<8)(pv:Value)(l:List (Nat×Nat×Int))(hp:Ql w 3 pv l.length (Qd l))(hown:∀ k,pv.ownBlock=some k->own k=none)(hi:Qz l)(hl:l.length<=100000)(hx:D.exec+l.length<4294967296) :
  Calls prog 12 #[pv,.iface 40 (.pointer (some ⟨v.tb j,0,none⟩))] w fun r w'=>r = .returned (.int .i64 ((D.run j l).err j))/\Qr v own w (D.run j l) w':=by
 have HV:=hid (Es pv l hp hi hl);have HP:=hid hp;have HI:=hid hi;have HO:=hid hown;have H:=hid h;clear h hi hown
 have hm2:=meth_Err ⟨v.tb j,0,none⟩;obtain⟨_,a,c,rfl,hc,_⟩:=hp
 generalize hn:l.length=n at *
 have HN:=hid hn;clear hn
 go_enter func12,ntmps12
 go_wp2_with fail
 (with_reducible refine HV.out.mono ?_)
 rintro e w1 ⟨rfl,b1⟩;have R1:Hid (Qwd w v own D j l 0 w1):=⟨⟨own,H.out.kept b1.size (fun k hk=>b1.block k (H.out.lt k hk)),fun _ _=>rfl,Upd.of_below b1⟩⟩;clear b1;go_wp2_with fail
 go_loopw [16] (fun y wr=>∃ k:Nat,k<=n/\y = .int .i64 k/\Qwd w v own D j l k wr) (fun y _=>n-(intOf y).toNat)
 case atStart=>exact⟨0,by omega,rfl,R1.out⟩
 case round=>
  obtain⟨k,hk,rfl,hr⟩:=hrel;obtain⟨own1,d1,o1,u1⟩:=hr.post;have D1:=hid d1;have O1:=hid o1;have U1:=hid u1;clear hr d1 o1 u1 R1
  by_cases hlt:k<n
  ·have hk':(k:Int)<n:=by omega
   obtain⟨e,he⟩:∃ e,l[k]? = some e:=⟨_,List.getElem?_eq_getElem (by rw[HN.out];exact hlt)⟩;obtain⟨_,a',c',e',_,hE⟩:=HP.out.upd U1.out (fun k hk=>by simpa using HO.out k hk)
   cases e'
   have hg:=Yf l k e he;obtain⟨eb,eo,rfl,hE2⟩:=Zr hE hg.1;have c1:=hE2 _ _ hg.1;have c2:=hE2 _ _ hg.2.1;have c3:=hE2 _ _ hg.2.2
   rw[<- Nat.add_assoc]at c2 c3;obtain⟨i1,i2,i3⟩:=HI.out e (List.mem_of_getElem? he);have hx1:(D.run j (l.take k)).exec<4294967296:=by
    have:=D.run_exec j (l.take k);have h2:=List.length_take_le k l;omega
   have HT:=hid (Ll l k e he);have HX:=hid (fun o=>Qfa (D1.out.alloc o) hj e i1 i2 i3 hx1);clear hE hE2 he hg hx1;go_wp2_with fail
   (with_reducible refine(HX.out _).mono ?_)
   rintro e' w2 ⟨rfl,hp⟩;have P2:Hid (Qwd w v own D j l (k+1) w2):=⟨by rw[HT.out,Dev.run_snoc];exact Qr.next O1.out U1.out hp.start⟩;clear hp;go_wp2_with fail
   go_roundw
   case rel=>exact⟨k+1,by omega,by go_num,P2.out⟩
   case measure=>simp[intOf];omega
  ·have HF:Hid (l.take k=l):=List.take_of_length_le (by rw[HN.out];omega)
   rw[HF.out]at D1;have HE:=hid (err_any D1.out hj);go_wp2_with fail
   (with_reducible refine HE.out.mono ?_)
   rintro e w' ⟨rfl,rfl⟩;go_wp2_with fail
   go_ret
   exact⟨rfl,own1,D1.out,O1.out,U1.out⟩
end
end

section
open Go.Maps
attribute [local go_sem ↓] Go.wp_at_zero Go.wp_at_succ
def Kp(l:List (Nat×Nat×Int)):Nat:=(l.filter fun e=>e.1==3).length
theorem Qcj(l:List (Nat×Nat×Int))(e:Nat×Nat×Int):Kp (l ++ [e])=Kp l+(if e.1=3 then 1 else 0):=by
 unfold Kp;rw[List.filter_append,List.length_append]
 by_cases h:e.1=3
 ·simp[h]
 ·simp[h]
section
variable{w:World}
theorem Ng(sv:Value)(l:List (Nat×Nat×Int))(h:Ql w 3 sv l.length (Qd l))(hl:l.length<=100000) :
  Calls prog 26 #[sv] w fun r w'=>r = .returned (.int .i64 (Kp l))/\Below w.heap.size w w':=by
 have HS:=hid h;have HE:Hid (Kp l=Kp (l.take l.length)):=by show Kp l=_;rw[List.take_length]
 obtain⟨_,sa,sc,rfl,hsc,_⟩:=h
 generalize Kp l=res at *
 generalize hm:l.length=m at *
 have HM:=hid hm;clear hm
 go_enter func26,ntmps26
 go_wp2_with fail
 go_loopw [3,8] (fun n y wr=>∃ k:Nat,k<=m/\y = .int .i64 k/\n = .int .i64 (Kp (l.take k):Nat)/\Kp (l.take k)<=k/\Below w.heap.size w wr) (fun _ y _=>m-(intOf y).toNat)
 case atStart=>exact⟨0,by omega,rfl,rfl,by simp[Kp],Below.refl _ _⟩
 case round=>
  obtain⟨k,hk,rfl,rfl,hfk,hb⟩:=hrel;have B:=hid hb;clear hb
  by_cases hlt:k<m
  ·have hk':(k:Int)<m:=by omega
   obtain⟨e,he⟩:∃ e,l[k]? = some e:=⟨_,List.getElem?_eq_getElem (by rw[HM.out];exact hlt)⟩;obtain⟨_,a',c',e',_,hE⟩:=HS.out.below B.out
   cases e'
   have hg:=Yf l k e he;obtain⟨fb,fo,rfl,hE2⟩:=Zr hE hg.1;have c1:=hE2 _ _ hg.1;have c2:=hE2 _ _ hg.2.1;have c3:=hE2 _ _ hg.2.2
   rw[<- Nat.add_assoc]at c2 c3;have HT:Hid (Kp (l.take (k+1))=Kp (l.take k)+(if e.1=3 then 1 else 0)):=by show Kp (l.take (k+1))=_;rw[List.take_add_one,he];exact Qcj _ _
   clear hE hE2 he hg;obtain⟨e1,e2,e3⟩:=e;simp only at c1 c2 c3 HT;have BA:=hid (B.out.alloc B.out.size (.cells #[.int .u8 (e1:Int),.int .u64 (e2:Int),.int .u64 e3] 73))
   generalize Kp (l.take k)=f at *
   by_cases h3:e1=3
   ·have hb3:((e1:Int)==3)=true:=by simp;omega
    rw[if_pos h3]at HT;clear h3;go_wp2_with fail
    go_roundw
    case rel=>exact⟨k+1,by omega,by go_num,by rw[HT.out];go_num,by rw[HT.out];omega,BA.out⟩
    case measure=>simp[intOf];omega
   ·have hb3:((e1:Int)==3)=false:=by simp;omega
    rw[if_neg h3]at HT;clear h3;go_wp2_with fail
    go_roundw
    case rel=>exact⟨k+1,by omega,by go_num,by rw[HT.out];go_num,by rw[HT.out];omega,BA.out⟩
    case measure=>simp[intOf];omega
  ·obtain rfl:k=m:=by omega
   go_wp2_with fail
   go_ret
   exact⟨Xm (by rw[HE.out]),B.out⟩
end
end

section
namespace Dev
variable{D:Dev}
end Dev
section
variable{wr w':World}{D:Dev}{rb lb:Nat}{hv:Nat->Value}{nv:Value}{ns:List (Nat×Nat)}
end
end

section
attribute [local go_sem ↓] Go.wp_at_zero Go.wp_at_succ
section
variable{w:World}{D:Dev}{rb lb:Nat}{hv:Nat->Value}{nv:Value}{ns:List (Nat×Nat)}
end
end

section
attribute [local go_sem ↓] Go.wp_at_zero Go.wp_at_succ
section
variable{w:World}{D:Dev}{rb lb:Nat}{hv:Nat->Value}{nv:Value}{ns:List (Nat×Nat)}
end
end

section
attribute [local go_sem ↓] Go.wp_at_zero Go.wp_at_succ
def w8(F:Nat->Int):Array Value:=#[.int .u64 (F 0),.int .u64 (F 1),.int .u64 (F 2),.int .u64 (F 3),.int .u64 (F 4),.int .u64 (F 5),.int .u64 (F 6),.int .u64 (F 7)]
section
variable{w:World}
end
section
variable{w:World}{D:Dev}{rb lb:Nat}{hv:Nat->Value}{nv:Value}{ns:List (Nat×Nat)}
end
end

section
attribute [local go_sem ↓] Go.wp_at_zero Go.wp_at_succ
section
variable{w:World}{D:Dev}{rb lb:Nat}{hv:Nat->Value}{nv:Value}{ns:List (Nat×Nat)}
end
end

section
attribute [local go_sem ↓] Go.wp_at_zero Go.wp_at_succ
section
variable{w:World}{D:Dev}{rb lb:Nat}{hv:Nat->Value}{nv:Value}{ns:List (Nat×Nat)}
end
end

section
attribute [local go_sem ↓] Go.wp_at_zero Go.wp_at_succ
def To(F:Nat->Int)(p:Nat):List Value:=(List.range p).map fun i => .int .u8 (Qq F i)
section
variable{w:World}{D:Dev}{rb lb:Nat}{hv:Nat->Value}{nv:Value}{ns:List (Nat×Nat)}
end
end

section
attribute [local go_sem ↓] Go.wp_at_zero Go.wp_at_succ
section
variable{w:World}{D:Dev}{rb lb:Nat}{hv:Nat->Value}{nv:Value}{ns:List (Nat×Nat)}
end
end
end Go.Proofs.YtlhchkajjpefmaaGreatDoor
