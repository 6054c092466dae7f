/- SpacePlays: a part of its proof; conditions: its statement's. -/
import Derived.Test.YtefepnnfphdkpaaGreatE35
namespace Go.Proofs.YtefepnnfphdkpaaGreat.Am
open Go
def wF (R:List Nat)(i p:Nat): List Nat:=bk R (4*i) (le 4 p)
theorem GN {R:List Nat}{i p:Nat}(I:R.length=64)(hi:i<16): (wF R i p).length=64:=by
 rw [wF,cI (by rw [cJ]; omega),I]
theorem SI {R:List Nat}{i p j:Nat}(I:R.length=64)(hi:i<16)(J:p<4294967296): cT (wF R i p) (4*j) 4=if j=i then p else cT R (4*j) 4:=by
 by_cases h:j=i
 ·subst h; rw [aq rfl]; exact qM (by omega) (by omega)
 ·rw [ah h]; exact zZ (by rw [cJ]; omega) (by rw [cJ]; omega)
theorem f_.roots {N:Nat}{R M:List Nat}{P:Int→List Nat}(h:f_ N R M P){I:List Nat}{J:Int→List Nat}(h1:J 1=P 1)(h0:∃ex,dP (J 0) 201 N ex [eS,I])(hl:I.length=64): f_ N I M J :=
 ⟨h0,hl,by rw [h1]; exact h.marks,h.ml,h.n1,h.n2,h.own,h.hi⟩
theorem Eo {h:H}{n:Nat}(I:n<18446744073709551616): convV Tryz.prog h 3 43 (.int .i64 (n:Int))=some (.int .u64 (n:Int),h):=by
 simp only [convV,bI,cG,wrap_u64 I]
section
variable {told:cZ} {h:H} {S:List au} {X Y:au} {N B n g a p q r aO:Nat} {v x y rv:V} {b l c R M data:List Nat} {ε:aE} {now:List (Int×List Nat)}
theorem QW (J:W told)(hB:B≤2000)(I:EI N B ε)(hw:NW N now){n:Int}(h0:0≤n)(h1:n<N)(s:Sat h (GA g a p q r data aO now ε::S)):
  Call ⟨Tryz.prog,told⟩ 76 [.ptr g 0,.int .i64 n] h fun v h'=>∃w ε',v=.aY [w,.int .i64 0]∧EI N B ε'∧Sm N ε ε'∧Sat h' (aZ w (dK now ε n)::GA g a p q r data aO now ε'::S):=by
 obtain ⟨ty,u,f,e,hm,hr⟩:=(yx (g:=g) (a:=a) (p:=p) (q:=q) (r:=r) (data:=data) (aO:=aO) J hB hw).iface
 injection e with e1 e2
 subst e1
 subst e2
 rw [Dd] at hm
 obtain rfl:=bB hm
 exact hr I h0 h1 s
theorem KB (hT:W told)(hB:B≤2000)(fF:EI N B ε)(hw:NW N now)(hp:f_ N R M (dK now ε)){i z:Int}(s:Sat h (GA g a p q r data aO now ε::S)):
  Call ⟨Tryz.prog,told⟩ 78 [.ptr g 0,.int .i64 i,.int .i64 z] h fun v h'=>∃ε' bS,EI N B ε'∧Sm N ε ε'∧NW N bS∧bS.length≤now.length+1∧Sat h' (GA g a p q r data aO bS ε'::S) ∧
   ((¬(0≤i∧i<16∧0≤z∧z<N)∧v=.int .i64 1∧bS=now)∨(0≤i∧i<16∧0≤z∧z<N∧v=.int .i64 0∧f_ N (wF R i.toNat z.toNat) M (dK bS ε')∧∀m,m≠0→dK bS ε' m=dK now ε m)):=by
 obtain ⟨ex,nE⟩:=hp.head
 have qD:=hp.n1
 have nM:=hp.n2
 have j0:=hp.rl
 refine Call.of_wp (hT.free _ rfl) Tryz.func78 rfl rfl (zK 7 rfl (zo rfl (nj rfl (lC jZ rfl)) (zc rfl (oH hT (yx hT hB hw) fF (by omega) nE hp.rl s) ?_)))
 rintro v h ⟨u,I,rfl,kI,eF,s⟩
 have jY:dK now I=dK now ε:=gJ eF
 have bad:∀ {h':H},¬(0≤i∧i<16∧0≤z∧z<N)→Sat h' (aZ u R::GA g a p q r data aO now I::S)→∃ε' bS,EI N B ε'∧Sm N ε ε'∧NW N bS∧bS.length≤now.length+1∧Sat h' (GA g a p q r data aO bS ε'::S) ∧
   ((¬(0≤i∧i<16∧0≤z∧z<N)∧V.int .i64 1=.int .i64 1∧bS=now)∨(0≤i∧i<16∧0≤z∧z<N∧V.int .i64 1=.int .i64 0∧f_ N (wF R i.toNat z.toNat) M (dK bS ε')∧∀m,m≠0→dK bS ε' m=dK now ε m)) :=
  fun A6 s=>⟨I,now,kI,eF,hw,jh _,s.drop,.inl ⟨A6,rfl,rfl⟩⟩
 refine zk 9 rfl (WP.block (zK 3 rfl (zh rfl (af rfl rfl aG) (rfl) (zk 6 rfl ?_))))
 by_cases h1:i<0
 ·skip
  refine zt rfl (af rfl rfl aK) (by simp; omega) ?_
  exact zk 20 rfl (WP.ret ⟨aa,_,rfl,bad (by omega) s⟩)
 ·skip
  refine zh rfl (af rfl rfl aK) (by simp; omega) ?_
  refine zk 2 rfl ?_
  by_cases h2:16≤i
  ·skip
   refine zt rfl (af rfl rfl jq) (by simp; omega) ?_
   exact zk 17 rfl (WP.ret ⟨aa,_,rfl,bad (by omega) s⟩)
  ·skip
   refine zh rfl (af rfl rfl jq) (by simp; omega) ?_
   refine zk 3 rfl ?_
   by_cases h3:z<0
   ·skip
    refine zt rfl (af rfl rfl aK) (by simp; omega) ?_
    exact zk 13 rfl (WP.ret ⟨aa,_,rfl,bad (by omega) s⟩)
   ·skip
    refine zh rfl (af rfl rfl aK) (by simp; omega) ?_
    refine zk 4 rfl ?_
    by_cases h4:(N:Int)≤z
    ·skip
     refine zt rfl (af rfl rfl jq) (by simp; omega) ?_
     exact zk 8 rfl (WP.ret ⟨aa,_,rfl,bad (by omega) s⟩)
    ·obtain ⟨k,rfl⟩:∃k:Nat,i=k:=⟨i.toNat,by omega⟩
     obtain ⟨w,rfl⟩:∃w:Nat,z=w:=⟨z.toNat,by omega⟩
     have XN:4*(k:Int)=((4*k:Nat):Int):=by omega
     have Vl:4*((k:Int)+1)=((4*k+4:Nat):Int):=by omega
     refine zh rfl (af rfl rfl jq) (by simp; omega) ?_
     refine zk 2 rfl (zv (zj rfl (WP.skip (zw ?_))))
     have xP:=gY (s.buf (k:=0) rfl).view
     have UK:=fW (s.buf (k:=0) rfl).view (a:=4*k) (b:=4*k+4) (by omega) (by omega)
     have FP:=gY UK.2.1
     have s0:=s
     refine WP.drawn [some (0,2),some (0,2),some (0,2),some (0,2),some (0,2),some (0,2),some (0,2),ai,ai,ai,ai] rfl (by kernel_rfl) (by kernel_rfl) ?_
     refine zM rfl (zM rfl (zO rfl (af (r:=.int .i64 ((4*k:Nat):Int)) rfl rfl (by rw [←XN]; exact jB (aB (by omega) (by omega)))) ?_))
     refine zM rfl (zO rfl (af (r:=.int .i64 ((k:Int)+1)) rfl rfl (bg (aB (by omega) (by omega)))) ?_)
     refine zO rfl (af (r:=.int .i64 ((4*k+4:Nat):Int)) rfl rfl (by rw [←Vl]; exact jB (aB (by omega) (by omega)))) ?_
     refine zO rfl (c_ (p:=some (.int .i64 ((4*k:Nat):Int))) (q:=some (.int .i64 ((4*k+4:Nat):Int))) (m:=none) (p':=some (4*k)) (q':=some (4*k+4)) (m':=none) rfl rfl rfl rfl (by rw [dU (by omega),bP]) (by rw [dU (by omega),bP]) rfl (fW (s.buf (k:=0) rfl).view (a:=4*k) (b:=4*k+4) (by omega) (by omega)).1) ?_
     refine zM rfl (aA.op rfl rfl rfl (by simp only [isEff,cG]) (b9 rfl (Eo (by omega))) ?_)
     have s:=s.sW
     refine aA.any rfl rfl rfl rfl (OpR.call rfl rfl rfl rfl (tc (z:=4) (n:=w) hT s (by decide) (by simp))) ?_
     intro v h s
     rw [dn] at s
     have s:=s.ae [1,0]
     have s1:=s
     refine aA.any rfl rfl rfl rfl (OpR.Qp (p:=4*k) (q:=4*k+4) rfl s (bz _ _) rfl rfl rfl rfl (by omega) (by omega) (by rw [cJ]; omega)) ?_
     intro _ h s
     rw [fq (by rw [cJ]; omega)] at s
     have s:Sat h (aZ u (wF R k w)::_):=s
     refine aA.nil ⟨⟨fun _ _=>.inr ⟨rfl,⟨_,bF rfl⟩,xP⟩,fun _ _=>.inr ⟨rfl,⟨_,bF rfl⟩,aS _ rfl⟩,fun _ _=>.inr ⟨rfl,⟨_,af (r:=.int .i64 ((4*k:Nat):Int)) rfl rfl (by rw [←XN]; exact jB (aB (by omega) (by omega)))⟩,aS _ rfl⟩,fun _ _=>.inr ⟨rfl,⟨_,bF rfl⟩,aS _ rfl⟩,fun _ _=>.inr ⟨rfl,⟨_,af (r:=.int .i64 ((k:Int)+1)) rfl rfl (bg (aB (by omega) (by omega)))⟩,aS _ rfl⟩,fun _ _=>.inr ⟨rfl,⟨_,af (r:=.int .i64 ((4*k+4:Nat):Int)) rfl rfl (by rw [←Vl]; exact jB (aB (by omega) (by omega)))⟩,aS _ rfl⟩,dB (.inr ⟨rfl,⟨_,c_ (p:=some (.int .i64 ((4*k:Nat):Int))) (q:=some (.int .i64 ((4*k+4:Nat):Int))) (m:=none) (p':=some (4*k)) (q':=some (4*k+4)) (m':=none) rfl rfl rfl rfl (by rw [dU (by omega),bP]) (by rw [dU (by omega),bP]) rfl (fW (s0.buf (k:=0) rfl).view (a:=4*k) (b:=4*k+4) (by omega) (by omega)).1⟩,FP⟩) (.inr ⟨rfl,⟨_,c_ (p:=some (.int .i64 ((4*k:Nat):Int))) (q:=some (.int .i64 ((4*k+4:Nat):Int))) (m:=none) (p':=some (4*k)) (q':=some (4*k+4)) (m':=none) rfl rfl rfl rfl (by rw [dU (by omega),bP]) (by rw [dU (by omega),bP]) rfl (fW (s1.buf (k:=0) rfl).view (a:=4*k) (b:=4*k+4) (by omega) (by omega)).1⟩,FP⟩),aa,aa,aa,aa,aa⟩,?_⟩
     have s:=s.ae [2,0]
     refine zK 3 rfl (zc rfl (QW (n:=0) hT hB kI hw (by decide) (by omega) s) ?_)
     rintro v h ⟨w2,lX,rfl,j3,fN,s⟩
     have YT:dP (dK now I 0) 201 N ex [eS,R]:=by rw [jY]; exact nE
     have s:=s.ae [0,1]
     refine zk 10 rfl (zh rfl (af rfl rfl aG) (rfl) (zk 8 rfl (zc rfl (Dj (i:=1) (c:=R) hT s (bz _ _) (bz _ _) YT rfl (by rw [GN j0 (by omega),j0])) ?_)))
     rintro v h ⟨w3,b',rfl,J,s⟩
     have J:dP b' 201 N ex [eS,wF R k w]:=J
     refine zk 9 rfl (zh rfl (af rfl rfl aG) (rfl) (zk 7 rfl (zc rfl (z_ (i:=0) hT hB j3 hw (by omega) (s.ae [3,0]) (bz _ _) J) ?_)))
     rintro v h ⟨wD,rfl,tE,lM,wU,s⟩
     refine zk 2 rfl (WP.ret ⟨aa,_,rfl,?_⟩)
     have Vm:∀m:Int,m≠0→dK (dO (0:Nat) b' now) wD m=dK now ε m:=fun m hm=>by rw [jO,ah (by omega),gJ lM,gJ fN,jY]
     refine ⟨wD,_,tE,(eF.trans fN).trans lM,wU,wC,?_,.inr ⟨by omega,by omega,by omega,by omega,rfl,?_,Vm⟩⟩
     ·exact (((s.del 4).del 3).del 2).del 1
     ·rw [bP,bP]
      exact hp.roots (Vm 1 (by decide)) ⟨ex,by rw [jO,aq (show ((0:Nat):Int)=0 from rfl)]; exact J⟩ (GN j0 (by omega))
end
theorem SJ : ∀(k n:Nat),le (k+1) n=le k n++[n/256^k%256]:=by
 intro k
 induction k with
 | zero=>intro n; simp [le]
 | succ k I =>
  intro n
  rw [le,I,le,gy,Nat.div_div_eq_div_mul,rU,rT 256]
def lyF (l:List Nat)(k:Nat)(m:List Nat): Nat→List Nat
 | 0=>l
 | i+1=>(lyF l k m i).set (k+i) (m.getD i 0)
theorem SK {l m:List Nat}{k:Nat}: ∀i,(lyF l k m i).length=l.length:=by
 intro i
 induction i with
 | zero=>rfl
 | succ i I=>rw [lyF,bJ,I]
section
variable {told:cZ} {h:H} {S:List au} {X:au} {v w:V} {l m:List Nat}
noncomputable def rxL : Code:=cV [1,1,0,1,0,0] ((Tryz.f172.body).getD .skip)
theorem KC {n z:Nat}(hz:z≤8): ∀(j i:Nat) (v:V) (h:H) (E:List (Nat×V)) (Q:Ex→List (Nat×V)→H→Prop),i+j=z→Sat h (aZ v (le i n)::S) →
  Has E [(0,.int .u64 (n:Int)),(1,.int .i64 (z:Int)),(5,v),(6,.int .i64 (i:Int))]→(∀E' h' v,Sat h' (aZ v (le z n)::S)→Has E' [(5,v)]→Q (.exit 0) E' h')→WP ⟨Tryz.prog,told⟩ 22 (.loop rxL) E h Q:=by
 intro j
 induction j with
 | zero =>
  intro i v h E Q hi s I J
  refine WP.loop (WP.has I (zK 5 rfl (zh rfl (af rfl rfl aK) (by simp; omega) ?_)))
  refine zk 2 rfl (WP.exit ?_)
  obtain rfl:i=z:=by omega
  exact J _ _ _ s ⟨rfl,aa⟩
 | succ j ih =>
  intro i v h E Q hi s I J
  have hle:=cJ i n
  refine WP.loop (WP.has I (zK 5 rfl (zt rfl (af rfl rfl aK) (by simp; omega) ?_)))
  refine zk 4 rfl (WP.block (zK 4 rfl (zo rfl (af (r:=.int .i64 ((8*i:Nat):Int)) rfl rfl (by simp only [binV,ikBeq,ag,intV]; rw [show (8:Int)*(i:Int)=((8*i:Nat):Int) by push_cast; rfl,wrap_i64 (by omega)])) ?_)))
  refine zo rfl (b9 rfl (by exact ji bI Tryz.underlying236 (ff (by omega) (by omega)))) ?_
  refine zo rfl (af (r:=.int .u64 ((n/256^i:Nat):Int)) rfl rfl (by simp only [binV]; exact Um (by omega))) ?_
  refine zo rfl (b9 rfl qp) (az.any rfl rfl rfl (OpR.EA (n:=n/256^i%256) rfl s rfl rfl rfl (by omega)) ?_)
  intro v3 h s
  refine az.any rfl rfl rfl (OpR.oU rfl (s.ae [1,0]) (bz _ _) rfl rfl rfl rfl (by simp; omega)) ?_
  intro v4 h s
  rw [←SJ] at s
  have s:=s.del 1
  dsimp only [bf,bringA] at s
  refine za rfl (zv (zr rfl (zm rfl (zb rfl (by exact bg (aB (by omega) (by omega))) ?_))))
  refine za rfl (zv ?_)
  exact ih (i+1) v4 _ _ Q (by omega) s ⟨rfl,rfl,rfl,rfl,aa⟩ J
theorem Pz (I:W told){n z:Nat}(J:z≤8)(s:Sat h S): Call ⟨Tryz.prog,told⟩ 172 [.int .u64 (n:Int),.int .i64 (z:Int)] h fun v h'=>Sat h' (aZ v (le z n)::S):=by
 refine Call.of_wp (I.free _ rfl) Tryz.func172 rfl rfl (zK 13 rfl (WP.block ?_))
 refine KC J z 0 .bu h _ _ (by omega) s.sW ⟨rfl,rfl,rfl,rfl,aa⟩ (fun E h v s hE => ?_)
 exact WP.has hE (zK 5 rfl (WP.ret ⟨aa,_,rfl,s⟩))
noncomputable def ryL : Code:=cV [1,1,0,0] ((Tryz.f128.body).getD .skip)
theorem KD {k z:Nat}{l0:List Nat}(hL:l0.length<4294967296)(hm:m.length=z)(hk:k+z≤l0.length): ∀(j i:Nat) (h:H) (E:List (Nat×V)) (Q:Ex→List (Nat×V)→H→Prop),i+j=z→Sat h (aZ v (lyF l0 k m i)::aZ w m::S) →
  Has E [(0,v),(1,.int .i64 (k:Int)),(2,.int .i64 (z:Int)),(8,w),(9,.int .i64 (i:Int))]→(∀E' h',Sat h' (aZ v (lyF l0 k m z)::aZ w m::S)→Q (.exit 0) E' h')→WP ⟨Tryz.prog,told⟩ 27 (.loop ryL) E h Q:=by
 intro j
 induction j with
 | zero =>
  intro i h E Q hi s hE hq
  refine WP.loop (WP.has hE (zK 5 rfl (zh rfl (af rfl rfl aK) (by simp; omega) ?_)))
  refine zk 2 rfl (WP.exit ?_)
  obtain rfl:i=z:=by omega
  exact hq _ _ s
 | succ j ih =>
  intro i h E Q hi s hE hq
  have PU:=SK (l:=l0) (k:=k) (m:=m) i
  have hb:m[i]?=some (m[i]'(by omega)):=aN _
  have I:m.getD i 0=m[i]'(by omega):=by rw [dL,hb]; rfl
  generalize (m[i]'(by omega))=b at hb I
  have va:b<256:=(s.buf (k:=1) rfl).view.1 b (a_ hb)
  obtain ⟨id,off,e1,e2⟩:=dR (s.buf (k:=1) rfl).view hb
  obtain ⟨qx,J,e3,h2,e4,s2⟩:=kK s (i:=k+i) (b:=b) (by omega) va
  refine WP.loop (WP.has hE (zK 5 rfl (zt rfl (af rfl rfl aK) (by simp; omega) ?_)))
  refine zk 4 rfl (WP.block (zK 4 rfl (zb rfl (by exact bg (aB (by omega) (by omega))) ?_)))
  refine zk 2 rfl (zo rfl (cn (r:=.ptr id off) rfl rfl e1) (zl rfl e2 (zo rfl (cn (r:=.ptr qx J) rfl rfl e3) (zS rfl (⟨h2,e4,s2⟩) ?_))))
  rintro h s
  rw [←I] at s
  refine zv (zr rfl (zm rfl (zb rfl (by exact bg (aB (by omega) (by omega))) ?_)))
  refine za rfl (zv ?_)
  exact ih (i+1) _ _ Q (by omega) s ⟨rfl,rfl,rfl,rfl,rfl,aa⟩ hq
theorem PA (I:W told){k z n:Nat}(J:z≤8)(hl:l.length<4294967296)(hk:k+z≤l.length)(s:Sat h (aZ v l::S)):
  Call ⟨Tryz.prog,told⟩ 128 [v,.int .i64 (k:Int),.int .i64 (z:Int),.int .u64 (n:Int)] h fun r h'=>Sat h' (aZ v (lyF l k (le z n) z)::S):=by
 refine Call.of_wp (I.free _ rfl) Tryz.func128 rfl rfl (zK 4 rfl (zc rfl (Pz I J s) ?_))
 intro w h s
 refine zk 6 rfl (WP.block ?_)
 refine KD (l0:=l) (m:=le z n) hl (cJ z n) hk z 0 h _ _ (by omega) (s.ae [1,0]) ⟨rfl,rfl,rfl,rfl,rfl,aa⟩ (fun E h s => ?_)
 exact ⟨aa,_,rfl,s.del 1⟩
theorem PB (hT:W told)(s:Sat h S): Call ⟨Tryz.prog,told⟩ 77 [.int .i64 0] h fun v h'=>Sat h' (aZ v (nX 0)::S):=by
 have I:lyF ((List.replicate 512 0).set 12 0) 16 (le 2 512) 2=nX 0:=by decide +kernel
 refine Call.of_wp (hT.free _ rfl) Tryz.func77 rfl rfl (zK 6 rfl (az.any rfl rfl rfl (OpR.BD rfl s rfl rfl rfl rfl (by decide)) ?_))
 intro v h s
 have hl:(List.replicate 512 0:List Nat).length=512:=cY
 obtain ⟨qx,J,e3,h2,e4,s2⟩:=kK s (i:=12) (b:=0) (by rw [cY]; decide) (by decide)
 refine zk 6 rfl (zo rfl (b9 rfl (by exact ji bI Tryz.underlying5 (xE (by omega) (by omega)))) ?_)
 refine zo rfl (cn (r:=.ptr qx J) rfl rfl e3) (zS rfl (⟨h2,e4,s2⟩) ?_)
 rintro h s
 refine zk 4 rfl (zc rfl (PA (k:=16) (z:=2) (n:=512) hT (by decide) (by rw [bJ,cY]; decide) (by rw [bJ,cY]; decide) s) ?_)
 intro r h s
 rw [I] at s
 exact zk 6 rfl (WP.ret ⟨aa,_,rfl,s⟩)
end
theorem PC {k:Int}{m:Nat}(hm:m<65536): ∃r:Nat,r≤m∧∀ {P:Program} {h:H} {t:TypeId} {x y:Operand},binV P h .and t x y (.int .i64 k) (.int .i64 (m:Int))=some (.int .i64 (r:Int)):=by
 refine ⟨Nat.land ((k%(2^(IntKind.i64).bits:Int)).toNat) m,Nat.and_le_right,fun {P h t x y} => ?_⟩
 have I:(((m:Nat):Int)%(2^(IntKind.i64).bits:Int)).toNat=m:=by simp only [IntKind.bits]; omega
 simp only [binV,ikBeq,ag,intV,bitsV,I]
 have hle:Nat.land ((k%(2^(IntKind.i64).bits:Int)).toNat) m≤m:=Nat.and_le_right
 rw [wrap_i64 (n:=Nat.land ((k%(2^(IntKind.i64).bits:Int)).toNat) m) (by omega)]
def AE (n:Nat): List Bool:=((List.replicate n false).set 0 true).set 1 true
theorem SL {n:Nat}: (AE n).length=n:=by unfold AE; rw [bJ,bJ,cY]
theorem SM {n i:Nat}(hi:i<n): (AE n).getD i false=decide (i<2):=by
 unfold AE
 rw [dL]
 by_cases I:i=1
 ·subst I; rw [fu (by rw [bJ,cY]; exact hi)]; rfl
 ·rw [eO (by omega)]
  by_cases J:i=0
  ·subst J; rw [fu (by rw [cY]; exact hi)]; rfl
  ·rw [eO (by omega),yE,aq hi,eA (by omega)]; rfl
section
variable {told:cZ} {h:H} {S:List au} {X Y:au} {N B n g a p q r aO i0:Nat} {v w x y rv uv hv ov ev:V} {Rt:List V} {U:List Bool} {b l c R M data L oc:List Nat} {ε:aE} {now:List (Int×List Nat)}
theorem Nc (hT:W told)(hn:2≤n)(nM:n≤3000)(s:Sat h S): Call ⟨Tryz.prog,told⟩ 28 [.int .i64 (n:Int)] h fun v h'=>∃uv,v=.agg (uv::AD)∧storable uv=true∧Sat h' (jx uv (eo (AE n))::S):=by
 obtain ⟨i1,jk,iE,tY⟩:=DX
 refine Call.of_wp (hT.free _ rfl) Tryz.func28 rfl rfl (zg rfl ?_)
 refine az.cz s rfl rfl rfl (cy AJ) (fun p2 h s => ?_)
 dsimp only [V.cells,List.length_cons,List.length_nil,Nat.reduceAdd] at s
 refine zk 3 rfl ?_
 refine az.cz s rfl rfl rfl (cy AJ) (fun p3 h s => ?_)
 dsimp only [V.cells,List.length_cons,List.length_nil,Nat.reduceAdd] at s
 refine zk 4 rfl ?_
 obtain ⟨uv,h1,e1,s1⟩:=qy (P:=Tryz.prog) s gd jk W3 iE (by omega) rfl (by decide) (by decide) (n:=n) (c:=n) (aD _) (by omega)
 refine az.any rfl rfl rfl (OpR.of (R:=fun v h'=>v=uv∧h'=h1) (ry rfl rfl e1) ⟨rfl,rfl⟩) ?_
 rintro uv h ⟨rfl,rfl⟩
 have s:Sat h (.arr 1 uv (repeatL [V.bool false] n)::_):=s1
 rw [Sj] at s
 have dz:eo (List.replicate n false)≠[]:=fun e=>by have:=fQ List.length e; rw [iy,cY] at this; simp at this; omega
 obtain ⟨id,m,cap,M,rest,rfl,_⟩:=s.CZ dz
 have s:=s.ae [1,1,0]
 dsimp only [bringA,getA,bf] at s
 refine zf rfl (d_ _ _) ?_
 refine zS rfl (by exact s.gO (k:=0) rfl Ua rfl (by decide) rfl rfl) (fun h s => ?_)
 dsimp only [Nat.reduceAdd,List.set,setA] at s
 refine zk 6 rfl (WP.block (WP.loop (zK 5 rfl (zc rfl (oI hT (n:=n) (by omega) (by omega)) ?_))))
 rintro v h' ⟨rfl,rfl⟩
 refine zt rfl (af rfl rfl aK) (by decide) ?_
 obtain ⟨qx,I,h2,e2,e3,s2⟩:=rF (P:=Tryz.prog) (x:=.bool true) (i:=0) (s.ae [2]) (by rw [iy,cY]; omega) rfl rfl gd oS
 rw [vx] at s2
 refine zk 4 rfl (WP.block (zr rfl (zf rfl (d_ _ _) (zl rfl (s.ld (k:=0) rfl iC rfl) (zm rfl (zo rfl (cn (r:=.ptr qx I) rfl rfl e2) (zS rfl (⟨h2,e3,s2⟩) ?_)))))))
 rintro h s
 have s:=s.ae [1,1,0]
 dsimp only [bf,bringA,getA] at s
 refine zv (zr rfl (zm rfl (zb rfl (by exact bg (aB (by omega) (by omega))) ?_)))
 refine za rfl (zv (WP.loop (zw (zg rfl (zk 2 rfl (zc rfl (oI hT (n:=n) (by omega) (by omega)) ?_))))))
 rintro v h' ⟨rfl,rfl⟩
 refine zt rfl (af rfl rfl aK) (by decide) ?_
 obtain ⟨GC,J,h3,e4,e5,s3⟩:=rF (P:=Tryz.prog) (x:=.bool true) (i:=1) (s.ae [2]) (by rw [iy,bJ,cY]; omega) rfl rfl gd oS
 rw [vx] at s3
 refine zv (zi rfl (WP.skip (zw (WP.block (zr rfl (zf rfl (d_ _ _) (zl rfl (by exact s.ld (k:=0) rfl iC rfl) ?_)))))))
 refine zm rfl (zo rfl (cn (r:=.ptr GC J) rfl rfl e4) (zS rfl (⟨h3,e5,s3⟩) ?_))
 rintro h s
 have s:=s.ae [1,1,0]
 dsimp only [bf,bringA,getA] at s
 refine zk 3 rfl (zb rfl (by exact bg (aB (by omega) (by omega))) ?_)
 refine za rfl (zv (WP.loop (zw (zg rfl (zk 2 rfl (zc rfl (oI hT (n:=n) (by omega) (by omega)) ?_))))))
 rintro v h' ⟨rfl,rfl⟩
 refine zh rfl (af rfl rfl aK) (by decide) ?_
 refine zk 2 rfl (WP.exit (zg rfl (zl rfl (s.bZ (k:=0) rfl fV dm) ?_)))
 refine zS rfl (s.eZ (j:=1) rfl dm rfl rfl) (fun h s => ?_)
 refine zv ?_
 refine WP.ret ⟨aa,_,QU rfl (s.bZ (k:=1) rfl fV dm),?_⟩
 have s4:=Ca (s.ae [2]) (by rw [iy,bJ,bJ,cY]; omega)
 exact ⟨_,rfl,rfl,(s4.del 2).del 1⟩
theorem Nd (I:WS told)(s:Sat h S): Call ⟨Tryz.prog,told⟩ 20 [] h fun v h'=>v=.bool true∧Sat h' S:=by
 refine Call.of_wp (I.w.free _ rfl) Tryz.func20 rfl rfl (zK 6 rfl (zc rfl (wV (n:=8) (m:=8192) (f:=8) I (by decide) (by decide) (by decide) (by decide) (by decide) (by decide) s) ?_))
 rintro v h ⟨p,a,q,r,ε,rfl,J,hp,hd,s⟩
 refine zk 6 rfl (zh rfl (af rfl rfl (wm o7)) (rfl) (zk 6 rfl (zc rfl (qO I.w s) ?_)))
 rintro v h ⟨g,rfl,s⟩
 refine zk 6 rfl (zh rfl (af rfl rfl (wm jZ)) (rfl) (zk 6 rfl (zc rfl (Pq (lo:=2) I.w (by decide) J (NW.nil 8) hp (by decide) (by rw [B_]; rfl) (fun j hj=>by rw [B_,dX hj]) s) ?_)))
 rintro v h ⟨ε',bS,rfl,_,_,_,_,_,_,s⟩
 refine zk 9 rfl (zt rfl (af rfl rfl dh) (by decide) ?_)
 refine zk 2 rfl (zt rfl (af rfl rfl dh) (by decide) ?_)
 exact zk 3 rfl (WP.ret ⟨aa,_,rfl,rfl,s.drop⟩)
end
section
variable {h:H} {S:List au} {u:V} {U:List Bool}
theorem Nf (s:Sat h (jx u (eo U)::S))(h1:1≤U.length)(h2:U.length≤1048576):
  ∃w h',appendV Tryz.prog h #[50,50] .bu u=some (w,h')∧Sat h' (.arr 1 w (eo U)::jx u (eo U)::S):=by
 obtain ⟨i1,jk,iE,I⟩:=DX
 have hz:=W3
 have Dt:=iy U
 have gq:(eo U).all storable=true:=by
  rw [eo,m9]
  intro x hx
  obtain ⟨b,_,rfl⟩:=List.mem_map.1 hx
  rfl
 obtain ⟨id,M,rest,cap,st,rfl,hM,_,hg⟩:=s.Ky (j:=0) rfl
 have J:srcV h 1 (.sl id 0 (eo U).length cap)=some (eo U,(eo U).length):=by
  simp only [srcV,cx]
  rw [xI hg (by rw [bU,hM]) (by omega),eP,ob rfl]
  rfl
 have XO:kf (eo U).length i1.bytes=true:=by
  simp only [kf,I,aJ,aF]
  omega
 refine ⟨_,_,?_,(s.new (.cells ((eo U).length*1) ([]++eo U) false)).iU fun a r wN=>⟨gq,.inr ⟨h.next,(eo U).length,.rest 1 0,(eo U).length*1,[],rfl,by rw [gz]; exact wN,by rw [cx],by rw [cx]; rfl,rfl,rfl,rfl,rfl,by omega⟩⟩⟩
 unfold appendV
 simp only [gd,jk,hz,iE,I,J]
 rw [show (Nat.ble 1 1&&Nat.ble 1 4096&&Nat.beq (V.bool false).cells.length 1)=true from rfl,ag,cH (by omega:(eo U).length≠0),ay]
 rw [I] at XO
 rw [XO,ag]
 rfl
end
section
variable {told:cZ} {h:H} {S:List au} {uv:V} {Rt:List V} {U:List Bool}
theorem KE (hT:W told)(I:(uv::Rt).all storable=true)(hR:Rt.length=16)(h1:1≤U.length)(hu:U.length≤3000)(s:Sat h (jx uv (eo U)::S)):
  Call ⟨Tryz.prog,told⟩ 75 [.agg (uv::Rt)] h fun v h'=>∃w,v=.agg (w::Rt)∧Sat h' (.arr 1 w (eo U)::jx uv (eo U)::S):=by
 have sV:Rt.all storable=true:=by simp only [gU,aJ] at I; exact I.2
 refine Call.of_wp (hT.free _ rfl) Tryz.func75 rfl rfl (zg rfl (az.cz s rfl rfl rfl (fc rfl I) ?_))
 intro p1 h s
 dsimp only [V.cells,List.length_cons] at s
 rw [hR] at s
 have s:Sat h (pt p1 (.cells 17 (uv::Rt) false)::_):=s
 refine az.cz s rfl rfl rfl (cy AJ) (fun p2 h s => ?_)
 refine zk 8 rfl (zf rfl (d_ _ _) (zl rfl (s.ld (k:=1) rfl iC rfl) ?_))
 have s:=s.ae [2,0,0]
 obtain ⟨w,h2,e1,s2⟩:=Nf s h1 (by omega)
 refine az.any rfl rfl rfl (OpR.of (R:=fun v h'=>v=w∧h'=h2) (mH rfl rfl e1) ⟨rfl,rfl⟩) ?_
 rintro w h ⟨rfl,rfl⟩
 have s:=s2.ae [3,2,0,0]
 dsimp only [V.cells,List.length_cons,List.length_nil,Nat.reduceAdd,bf,bringA,getA] at s
 have J:=s.lD (j:=2) rfl
 refine zf rfl (d_ _ _) (zS rfl (s.gO (k:=0) rfl Ua (by rw [aH,hR]) (by decide) J.1 J.2.1) ?_)
 rintro h s
 have s:Sat h (pt p1 (.cells 17 (w::Rt) false)::_):=s
 have hws:(w::Rt).all storable=true:=by rw [gU,J.2.1,sV]; rfl
 refine zk 3 rfl (zl rfl (s.bZ (k:=0) rfl fV dm) (zS rfl (s.eZ (j:=1) rfl dm (by rw [aH,hR]) hws) ?_))
 rintro h s
 refine zv ?_
 refine WP.ret ⟨aa,_,QU rfl (s.bZ (k:=1) rfl fV dm),?_⟩
 have s:=s.drop
 have s:=s.drop
 exact ⟨w,rfl,s⟩
end
theorem PD {f:Nat→Bool}: ∀ {N:Nat},¬(∀j,j<N→f j=true)→∃lo,lo<N∧f lo=false∧∀j,j<lo→f j=true:=by
 intro N
 induction N with
 | zero=>intro h; exact absurd (fun j I=>absurd I (yQ _)) h
 | succ N ih =>
  intro h
  by_cases J:∀j,j<N→f j=true
  ·refine ⟨N,yO _,?_,J⟩
   cases hq:f N with
   | false=>rfl
   | true=>exact absurd (fun j I=>by rcases Nat.lt_succ_iff_lt_or_eq.1 I with q | rfl; exact J j q; exact hq) h
  ·obtain ⟨lo,h3,h4,h5⟩:=ih J
   exact ⟨lo,by omega,h4,h5⟩
structure oJ (N:Nat)(R M:List Nat)(P:Int→List Nat)(Rt:List V)(U:List Bool): Prop where
 lH:f_ N R M P
 rt:wW R Rt
 ul:U.length=N
 us:∀i,i<N→U.getD i false=bt M i
theorem EF {P:Program}{E:List (Nat×V)}{h:H}{a b t:Nat}{p v w:V}(I:look E a=some p)(J:loadV P h t p=some v)(h2:look E b=some w): jA P E h [.cell a t,.tmp b]=some (.aY [v,w]):=by
 simp only [jA,mapO,resE,I,J,h2]
theorem SN {R:List Nat}{Rt:List V}(h:wW R Rt): V.beqL Rt Rt=true:=by
 have key:∀(l:List V),(∀v∈l,∃n:Int,v=.int .i64 n)→V.beqL l l=true:=by
  intro l
  induction l with
  | nil=>intro _; rfl
  | cons v l ih =>
   intro J
   obtain ⟨n,rfl⟩:=J v ct
   simp only [V.beqL,V.beq,dg,lR,uX,gA,ag]
   exact ih fun w hw=>J w (b6 _ hw)
 refine key Rt fun v hv => ?_
 obtain ⟨i,hi⟩:=uF hv
 have I:=(List.getElem?_eq_some_iff.1 hi).1
 rw [h.len] at I
 rw [h.val i I] at hi
 exact ⟨_,(bB hi).symm⟩
theorem SO {R:List Nat}{Rt:List V}{u:V}(h:wW R Rt)(hu:u.beq u=true): (V.agg (u::Rt)).beq (V.agg (u::Rt))=true:=by
 simp only [V.beq,V.beqL,hu,SN h,ag]
theorem o9 {R:List Nat}{Rt:List V}{u:V}(h:wW R Rt)(hu:storable u=true): (u::Rt).all storable=true:=by
 rw [gU,hu,h.st]; rfl
theorem Ng {P:Program}{h:H}{t:TypeId}{x y:Operand}{l:List Nat}: binV P h .eql t x y (.str l) (.str l)=some (.bool true):=JH.trans (by rw [dX rfl])
theorem gn {k:Nat}: (nX k).length=512:=by
 unfold nX
 rw [cI (by rw [cJ,bJ,cY]; decide),bJ,cY]
section
variable {told:cZ} {h:H} {S:List au} {N B g a p q r aO p4 p5 p6:Nat} {v w uv:V} {Rt ds I6:List V} {U:List Bool} {R M data:List Nat} {ε:aE} {now:List (Int×List Nat)} {Q:Ex→List (Nat×V)→H→Prop}
def Vn (N B g a p q r aO p4 p5 p6:Nat)(data:List Nat)(ds:List V)(S:List au)(ε:aE)(now:List (Int×List Nat))(Q:Ex→List (Nat×V)→H→Prop): Prop :=
 ∀(I:V) (J:List V) (U':List Bool) (ε':aE) (bS:List (Int×List Nat)) (R' M':List Nat) (E':List (Nat×V)) (h':H),EI N B ε'→Sm N ε ε'→NW N bS→bS.length≤now.length+2→oJ N R' M' (dK bS ε') J U'→look E' 6=some (.ptr p6 0)→look E' 7=some (.bool true) →
  Sat h' (pt p4 (.cells 17 (I::J) false)::pt p5 (.cells 3 ds false)::pt p6 (.cells 17 (I::J) false)::.arr 1 I (eo U')::GA g a p q r data aO bS ε'::S)→Q .ret E' h'
noncomputable def XP : Code:=cV [1,1,0,1,0,1,0,1,0,1,0,0] ((Tryz.f32.body).getD .skip)
theorem I7 {k:Nat}(hk:k≤U.length)(hU:U.length≤3000)(I:∀i,i<k→U.getD i false=true){x y:V}(s:Sat h (pt p4 (.cells 17 (uv::Rt) false)::pt p5 (.cells 3 ds false)::pt p6 (.cells 17 I6 false)::.arr 1 uv (eo U)::S)):
  ∀(d j:Nat) (E:List (Nat×V)),j+d=k→Has E [(0,.ptr g 0),(4,.ptr p4 0),(5,.ptr p5 0),(6,.ptr p6 0),(8,x),(9,y),(10,.int .i64 (j:Int))] →
  (∀E',Has E' [(0,.ptr g 0),(4,.ptr p4 0),(5,.ptr p5 0),(6,.ptr p6 0),(8,x),(9,y),(10,.int .i64 (k:Int))]→WP ⟨Tryz.prog,told⟩ 158 (.loop XP) E' h Q)→WP ⟨Tryz.prog,told⟩ 158 (.loop XP) E h Q:=by
 intro d
 induction d with
 | zero =>
  intro j E hj J hq
  obtain rfl:j=k:=by omega
  exact hq E J
 | succ d ih =>
  intro j E hj J hq
  have hlen:=s.eY (P:=Tryz.prog) (n:=U.length) (j:=3) rfl (by rw [iy,cx]) (by decide) gd
  obtain ⟨id,off,e1,e2⟩:=fY (P:=Tryz.prog) s (k:=3) (i:=j) rfl (vB (U:=U) (i:=j) (by omega)) gd oS
  rw [I j (by omega)] at e2
  refine WP.loop (WP.has J (zK 4 rfl (zf rfl (d_ _ _) (zl rfl (s.ld (k:=0) rfl iC rfl) (zo rfl (aT rfl rfl rfl hlen) (zt rfl (af rfl rfl aK) (by simp; omega) ?_))))))
  refine zv (zi rfl (WP.skip (zw (WP.block (zg rfl (zf rfl (d_ _ _) (zl rfl (s.ld (k:=0) rfl iC rfl) (zm rfl (zo rfl (cn (r:=.ptr id off) rfl rfl e1) (zl rfl (e2 _ kB) (zo rfl (cX rfl rfl) (zv (zj rfl (WP.skip (zr rfl (zm rfl (zb rfl (by exact bg (aB (by omega) (by omega))) ?_)))))))))))))))))
  refine za rfl (zv ?_)
  exact ih (j+1) _ (by omega) ⟨rfl,rfl,rfl,rfl,rfl,rfl,rfl,aa⟩ hq
noncomputable def spA : Code:=cV [1,1,0,1,0,1,0] ((Tryz.f32.body).getD .skip)
theorem QX (hT:W told)(hB:B≤2000)(fF:EI N B ε)(hw:NW N now)(hm:oJ N R M (dK now ε) Rt U)
 (s:Sat h (pt p4 (.cells 17 (uv::Rt) false)::pt p5 (.cells 3 ds false)::pt p6 (.cells 17 I6 false)::.arr 1 uv (eo U)::GA g a p q r data aO now ε::S)){E:List (Nat×V)}(hE:Has E [(0,.ptr g 0),(4,.ptr p4 0),(5,.ptr p5 0),(6,.ptr p6 0)])(hq:Vn N B g a p q r aO p4 p5 p6 data ds S ε now Q):
  WP ⟨Tryz.prog,told⟩ 158 spA E h Q:=by
 have qD:=hm.lH.n1
 have nM:=hm.lH.n2
 have uc:=hm.ul
 have j0:=hm.rt.len
 have GO:=s.lD (j:=3) rfl
 have gq:=o9 hm.rt GO.2.1
 refine WP.has hE (zK 3 rfl ?_)
 by_cases J:∀j,j<N→bt M j=true
 ·skip
  refine zc rfl (Ku hT hB fF hw hm.lH J (s.ae [4])) ?_
  rintro v h ⟨j4,rfl,kI,eF,s⟩
  have s:=s.ae [1,1,1,1,0]
  have hlen:=s.eY (P:=Tryz.prog) (n:=U.length) (j:=3) rfl (by rw [iy,cx]) (by decide) gd
  refine zk 11 rfl (WP.block ?_)
  refine I7 (k:=N) (by omega) (by omega) (fun i hi=>by rw [hm.us i hi]; exact J i hi) s N 0 _ (by omega) ⟨rfl,rfl,rfl,rfl,rfl,rfl,rfl,aa⟩ (fun E' hE => ?_)
  refine WP.loop (WP.has hE (zK 4 rfl (zf rfl (d_ _ _) (zl rfl (s.ld (k:=0) rfl iC rfl) (zo rfl (aT rfl rfl rfl hlen) (zh rfl (af rfl rfl aK) (by simp; omega) ?_))))))
  refine zk 2 rfl (WP.exit (zg rfl (zl rfl (s.bZ (k:=0) rfl fV dm) (zm rfl (zt rfl (af rfl rfl dh) (by decide) ?_)))))
  refine zk 2 rfl (zt rfl (af rfl rfl dh) (by decide) ?_)
  refine zq rfl (zS rfl (s.eZ (j:=2) rfl dm (by rw [aH,j0]) gq) ?_)
  rintro h s
  exact zk 2 rfl (WP.ret (hq uv Rt U j4 now R M _ _ kI eF hw (by omega) ⟨by rw [gJ eF]; exact hm.lH,hm.rt,hm.ul,hm.us⟩ rfl rfl s))
 ·obtain ⟨lo,nA,h0,h1⟩:=PD J
  refine zc rfl (D4 (lo:=lo) hT hB fF hw hm.lH nA h0 h1 (s.ae [4])) ?_
  rintro v h ⟨j4,PE,rfl,kI,eF,oh,DP,pF,BT,_,sG,s⟩
  have s:=s.ae [1,1,1,1,0]
  have hlen:=s.eY (P:=Tryz.prog) (n:=U.length) (j:=3) rfl (by rw [iy,cx]) (by decide) gd
  obtain ⟨id,off,e1,e2⟩:=fY (P:=Tryz.prog) s (k:=3) (i:=lo) rfl (vB (U:=U) (i:=lo) (by omega)) gd oS
  rw [hm.us lo nA,h0] at e2
  obtain ⟨qx,PF,h2,e3,e4,s2⟩:=rF (P:=Tryz.prog) (x:=.bool true) (i:=lo) (s.ae [3]) (by rw [iy]; omega) rfl rfl gd oS
  rw [vx] at s2
  refine zk 11 rfl (WP.block ?_)
  refine I7 (k:=lo) (by omega) (by omega) (fun i hi=>by rw [hm.us i (by omega)]; exact h1 i hi) s lo 0 _ (by omega) ⟨rfl,rfl,rfl,rfl,rfl,rfl,rfl,aa⟩ (fun E' hE => ?_)
  refine WP.loop (WP.has hE (zK 4 rfl (zf rfl (d_ _ _) (zl rfl (s.ld (k:=0) rfl iC rfl) (zo rfl (aT rfl rfl rfl hlen) (zt rfl (af rfl rfl aK) (by simp; omega) ?_))))))
  refine zk 4 rfl (WP.block (zg rfl (zf rfl (d_ _ _) (zl rfl (s.ld (k:=0) rfl iC rfl) (zm rfl (zo rfl (cn (r:=.ptr id off) rfl rfl e1) (zl rfl (e2 _ kB) (zo rfl (cX rfl rfl) (zk 4 rfl (zf rfl (d_ _ _) (zl rfl (s.ld (k:=0) rfl iC rfl) (zm rfl (zo rfl (cn (r:=.ptr qx PF) rfl rfl e3) (zS rfl (⟨h2,e4,s2⟩) ?_))))))))))))))
  rintro h s
  have s:=s.ae [4]
  refine zk 5 rfl (zc rfl (QW (n:=(lo:Int)) hT hB kI oh (by omega) (by omega) s) ?_)
  rintro v h ⟨w2,lX,rfl,j3,fN,s⟩
  rw [sG] at s
  have s:=s.ae [3,3,3,2,1,0]
  have H_:=SO hm.rt GO.2.2
  have QY:=(s.buf (k:=5) rfl).view
  have Qv:=gY QY
  have ku:=cD QY (a:=12) (by rw [gn]; decide)
  have PG:=gY ku.2.1
  have s0:=s
  refine zk 7 rfl (WP.drawn [some (0,2),ai,ai,ai,ai,ai,ai,ai,ai,ai,ai,ai,ai,some (0,3),some (0,3),some (0,3),none,some (1,2),some (1,2),some (1,2),some (1,2),none,none] rfl (by kernel_rfl) (by kernel_rfl) ?_)
  refine zL rfl (s.bZ (k:=0) rfl fV dm) (zM rfl (aA.qV rfl rfl rfl rfl (af rfl rfl dh) (by decide) ?_))
  refine zM rfl (zM rfl (zM rfl (aA.qV rfl rfl rfl rfl (af rfl rfl dh) (by simp) ?_)))
  refine zO rfl (ir rfl rfl) (zM rfl (zM rfl (aA.qV rfl rfl rfl rfl (af rfl rfl dh) (by decide) ?_)))
  refine zO rfl (ir rfl rfl) (zM rfl (zM rfl (zO rfl (c_ (p:=some (.int .i64 12)) (q:=none) (m:=none) (p':=some 12) (q':=none) (m':=none) rfl rfl rfl rfl rfl rfl rfl (cD (s.buf (k:=5) rfl).view (a:=12) (by rw [gn]; decide)).1) ?_)))
  refine aA.op rfl rfl rfl (by simp only [isEff,qC]) (b9 rfl (B3 (cD (s.buf (k:=5) rfl).view (a:=12) (by rw [gn]; decide)).2.1)) ?_
  refine aA.any rfl rfl rfl rfl (OpR.call rfl rfl rfl rfl (PB hT s)) ?_
  intro v3 h s
  have s:=s.ae [1,1,1,1,1,1,0]
  dsimp only [bf,bringA,getA] at s
  have s1:=s
  have hvn:=(s.buf (k:=6) rfl).view
  have I:=U6 ((nX 0).drop 12)
  have XQ:=gY (cD hvn (a:=12) (by rw [gn]; decide)).2.1
  refine zO rfl (c_ (p:=some (.int .i64 12)) (q:=none) (m:=none) (p':=some 12) (q':=none) (m':=none) rfl rfl rfl rfl rfl rfl rfl (cD (s.buf (k:=6) rfl).view (a:=12) (by rw [gn]; decide)).1) ?_
  refine aA.op rfl rfl rfl (by simp only [isEff,qC]) (b9 rfl (B3 (cD (s.buf (k:=6) rfl).view (a:=12) (by rw [gn]; decide)).2.1)) ?_
  refine zO rfl (af rfl rfl Ng) (zO rfl (ir rfl rfl) (aA.j6 rfl rfl rfl (OpR.vm rfl rfl rfl (s.eZ (j:=2) rfl dm (by rw [aH,j0]) gq)) ?_))
  rintro v h ⟨rfl,s⟩
  refine zA rfl ?_
  refine aA.nil ⟨⟨dB (.inr ⟨rfl,⟨_,aR rfl (s0.bZ (k:=0) rfl fV dm)⟩,H_⟩) (.inr ⟨rfl,⟨_,aR rfl (s1.bZ (k:=0) rfl fV dm)⟩,H_⟩),aa,aa,aa,aa,aa,aa,aa,aa,aa,aa,aa,aa,fun _ _=>.inr ⟨rfl,⟨_,bF rfl⟩,Qv⟩,vl (.inr ⟨rfl,⟨_,c_ (p:=some (.int .i64 12)) (q:=none) (m:=none) (p':=some 12) (q':=none) (m':=none) rfl rfl rfl rfl rfl rfl rfl (cD (s0.buf (k:=5) rfl).view (a:=12) (by rw [gn]; decide)).1⟩,PG⟩) (.inr ⟨rfl,⟨_,c_ (p:=some (.int .i64 12)) (q:=none) (m:=none) (p':=some 12) (q':=none) (m':=none) rfl rfl rfl rfl rfl rfl rfl (cD (s1.buf (k:=5) rfl).view (a:=12) (by rw [gn]; decide)).1⟩,PG⟩) (.inr ⟨rfl,⟨_,c_ (p:=some (.int .i64 12)) (q:=none) (m:=none) (p':=some 12) (q':=none) (m':=none) rfl rfl rfl rfl rfl rfl rfl (cD (s.buf (k:=5) rfl).view (a:=12) (by rw [gn]; decide)).1⟩,PG⟩),vl (.inr ⟨rfl,⟨_,b9 rfl (B3 (cD (s0.buf (k:=5) rfl).view (a:=12) (by rw [gn]; decide)).2.1)⟩,I⟩) (.inr ⟨rfl,⟨_,b9 rfl (B3 (cD (s1.buf (k:=5) rfl).view (a:=12) (by rw [gn]; decide)).2.1)⟩,I⟩) (.inr ⟨rfl,⟨_,b9 rfl (B3 (cD (s.buf (k:=5) rfl).view (a:=12) (by rw [gn]; decide)).2.1)⟩,I⟩),aa,dB (.inr ⟨rfl,⟨_,c_ (p:=some (.int .i64 12)) (q:=none) (m:=none) (p':=some 12) (q':=none) (m':=none) rfl rfl rfl rfl rfl rfl rfl (cD (s1.buf (k:=6) rfl).view (a:=12) (by rw [gn]; decide)).1⟩,XQ⟩) (.inr ⟨rfl,⟨_,c_ (p:=some (.int .i64 12)) (q:=none) (m:=none) (p':=some 12) (q':=none) (m':=none) rfl rfl rfl rfl rfl rfl rfl (cD (s.buf (k:=6) rfl).view (a:=12) (by rw [gn]; decide)).1⟩,XQ⟩),dB (.inr ⟨rfl,⟨_,b9 rfl (B3 (cD (s1.buf (k:=6) rfl).view (a:=12) (by rw [gn]; decide)).2.1)⟩,I⟩) (.inr ⟨rfl,⟨_,b9 rfl (B3 (cD (s.buf (k:=6) rfl).view (a:=12) (by rw [gn]; decide)).2.1)⟩,I⟩),fun _ _=>.inr ⟨rfl,⟨_,af rfl rfl Ng⟩,aS _ rfl⟩,fun _ _=>.inr ⟨rfl,⟨_,ir rfl rfl⟩,aS _ rfl⟩,aa,aa,aa⟩,?_⟩
  refine WP.ret ?_
  refine hq uv Rt (U.set lo true) lX PE R (B7 M lo) _ _ j3 (eF.trans fN) oh (by omega) ⟨by rw [gJ fN]; exact pF,hm.rt,by rw [bJ]; exact hm.ul,fun i hi => ?_⟩ rfl rfl ((s.ae [0,0,0,0,0]).del 6 |>.del 5)
  rw [QO (by have:=hm.lH.ml; omega),dL]
  by_cases tW:i=lo
  ·subst tW; rw [fu (by omega),aq rfl]; rfl
  ·rw [eO (by omega),ah tW,←hm.us i hi,dL]
end
end Go.Proofs.YtefepnnfphdkpaaGreat.Am
