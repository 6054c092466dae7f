/- SpaceRoots: a part of its proof; conditions: its statement's. -/
import Derived.Test.YtefepnnfphdkpaaGreatF33
import Derived.Test.YtefepnnfphdkpaaGreatF31
import Derived.Test.YtefepnnfphdkpaaGreatF29
import Derived.Test.YtefepnnfphdkpaaGreatF28
namespace Go.Proofs.YtefepnnfphdkpaaGreat.Am
open Go
def xW (R:List Nat)(i p:Nat): List Nat:=aV R (4*i) (le 4 p)
theorem IM {R:List Nat}{i p:Nat}(I:R.length=64)(hi:i<16): (xW R i p).length=64:=by
 rw [xW,cz (by rw [cy]; omega),I]
theorem Vj {R:List Nat}{i p j:Nat}(I:R.length=64)(hi:i<16)(J:p<4294967296): dn (xW R i p) (4*j) 4=if j=i then p else dn R (4*j) 4:=by
 by_cases h:j=i
 ·subst h; rw [aj rfl]; exact r8 (by omega) (by omega)
 ·rw [ah h]; exact Bc (by rw [cy]; omega) (by rw [cy]; omega)
theorem iH.roots {N:Nat}{R M:List Nat}{P:Int→List Nat}(h:iH N R M P){I:List Nat}{P':Int→List Nat}(J:P' 1=P 1)(h0:∃ex,dX (P' 0) 201 N ex [fB,I])(hl:I.length=64): iH N I M P' :=
 ⟨h0,hl,by rw [J]; exact h.marks,h.ml,h.n1,h.n2,h.own,h.hi⟩
theorem Gw {h:H}{n:Nat}(I:n<18446744073709551616): convV Tryz.prog h 3 43 (.int .i64 (n:Int))=some (.int .u64 (n:Int),h):=by
 simp only [convV,bD,cE,wrap_u64 I]
section
variable {told:cQ} {h:H} {S:List au} {X Y:au} {N B n g a p q r aH:Nat} {v x y rv:V} {b l c R M data:List Nat} {ε:aI} {now:List (Int×List Nat)}
theorem Zb (J:W told)(hB:B≤2000)(I:EI N B ε)(hw:NW N now){n:Int}(h0:0≤n)(h1:n<N)(s:Sat h (GA g a p q r data aH now ε::S)):
  Call ⟨Tryz.prog,told⟩ 76 [.ptr g 0,.int .i64 n] h fun v h'=>∃w ε',v=.bj [w,.int .i64 0]∧EI N B ε'∧Sm N ε ε'∧Sat h' (aZ w (fR now ε n)::GA g a p q r data aH now ε'::S):=by
 obtain ⟨ty,u,f,e,hm,hr⟩:=(MK (g:=g) (a:=a) (p:=p) (q:=q) (r:=r) (data:=data) (aH:=aH) J hB hw).iface
 injection e with e1 e2
 subst e1
 subst e2
 rw [EY] at hm
 obtain rfl:=bk hm
 exact hr I h0 h1 s
theorem MS (hT:W told)(hB:B≤2000)(mo:EI N B ε)(hw:NW N now)(hp:iH N R M (fR now ε)){i z:Int}(s:Sat h (GA g a p q r data aH now ε::S)):
  Call ⟨Tryz.prog,told⟩ 78 [.ptr g 0,.int .i64 i,.int .i64 z] h fun v h'=>∃ε' cS,EI N B ε'∧Sm N ε ε'∧NW N cS∧cS.length≤now.length+1∧Sat h' (GA g a p q r data aH cS ε'::S) ∧
   ((¬(0≤i∧i<16∧0≤z∧z<N)∧v=.int .i64 1∧cS=now)∨(0≤i∧i<16∧0≤z∧z<N∧v=.int .i64 0∧iH N (xW R i.toNat z.toNat) M (fR cS ε')∧∀m,m≠0→fR cS ε' m=fR now ε m)):=by
 obtain ⟨ex,pX⟩:=hp.head
 have ux:=hp.n1
 have sA:=hp.n2
 have nM:=hp.rl
 refine Call.of_wp (hT.free _ rfl) Tryz.func78 rfl rfl (zK 7 rfl (zo rfl (u9 rfl (rW ql rfl)) (zc rfl (tH hT (MK hT hB hw) mo (by omega) pX hp.rl s) ?_)))
 rintro v h ⟨u,I,rfl,pO,ig,s⟩
 have kG:fR now I=fR now ε:=mQ ig
 have bad:∀ {h':H},¬(0≤i∧i<16∧0≤z∧z<N)→Sat h' (aZ u R::GA g a p q r data aH now I::S)→∃ε' cS,EI N B ε'∧Sm N ε ε'∧NW N cS∧cS.length≤now.length+1∧Sat h' (GA g a p q r data aH cS ε'::S) ∧
   ((¬(0≤i∧i<16∧0≤z∧z<N)∧V.int .i64 1=.int .i64 1∧cS=now)∨(0≤i∧i<16∧0≤z∧z<N∧V.int .i64 1=.int .i64 0∧iH N (xW R i.toNat z.toNat) M (fR cS ε')∧∀m,m≠0→fR cS ε' m=fR now ε m)) :=
  fun G2 s=>⟨I,now,pO,ig,hw,qS _,s.drop,.inl ⟨G2,rfl,rfl⟩⟩
 refine zk 9 rfl (WP.block (zK 3 rfl (zh rfl (af rfl rfl aN) (rfl) (zk 6 rfl ?_))))
 by_cases h1:i<0
 ·skip
  refine zt rfl (af rfl rfl aT) (by simp; omega) ?_
  exact zk 20 rfl (WP.ret ⟨aa,_,rfl,bad (by omega) s⟩)
 ·skip
  refine zh rfl (af rfl rfl aT) (by simp; omega) ?_
  refine zk 2 rfl ?_
  by_cases h2:16≤i
  ·skip
   refine zt rfl (af rfl rfl mG) (by simp; omega) ?_
   exact zk 17 rfl (WP.ret ⟨aa,_,rfl,bad (by omega) s⟩)
  ·skip
   refine zh rfl (af rfl rfl mG) (by simp; omega) ?_
   refine zk 3 rfl ?_
   by_cases h3:z<0
   ·skip
    refine zt rfl (af rfl rfl aT) (by simp; omega) ?_
    exact zk 13 rfl (WP.ret ⟨aa,_,rfl,bad (by omega) s⟩)
   ·skip
    refine zh rfl (af rfl rfl aT) (by simp; omega) ?_
    refine zk 4 rfl ?_
    by_cases h4:(N:Int)≤z
    ·skip
     refine zt rfl (af rfl rfl mG) (by simp; omega) ?_
     exact zk 8 rfl (WP.ret ⟨aa,_,rfl,bad (by omega) s⟩)
    ·obtain ⟨k,rfl⟩:∃k:Nat,i=k:=⟨i.toNat,by omega⟩
     obtain ⟨w,rfl⟩:∃w:Nat,z=w:=⟨z.toNat,by omega⟩
     have h4k:4*(k:Int)=((4*k:Nat):Int):=by omega
     have XG:4*((k:Int)+1)=((4*k+4:Nat):Int):=by omega
     refine zh rfl (af rfl rfl mG) (by simp; omega) ?_
     refine zk 2 rfl (zv (zj rfl (WP.skip (zw ?_))))
     have uw:=dz (s.buf (k:=0) rfl).view
     have Xm:=er (s.buf (k:=0) rfl).view (a:=4*k) (b:=4*k+4) (by omega) (by omega)
     have zT:=dz Xm.2.1
     have s0:=s
     refine WP.drawn [some (0,2),some (0,2),some (0,2),some (0,2),some (0,2),some (0,2),some (0,2),ai,ai,ai,ai] rfl (by kernel_rfl) (by kernel_rfl) ?_
     refine zM rfl (zM rfl (zO rfl (af (r:=.int .i64 ((4*k:Nat):Int)) rfl rfl (by rw [←h4k]; exact kA (aC (by omega) (by omega)))) ?_))
     refine zM rfl (zO rfl (af (r:=.int .i64 ((k:Int)+1)) rfl rfl (br (aC (by omega) (by omega)))) ?_)
     refine zO rfl (af (r:=.int .i64 ((4*k+4:Nat):Int)) rfl rfl (by rw [←XG]; exact kA (aC (by omega) (by omega)))) ?_
     refine zO rfl (cf (p:=some (.int .i64 ((4*k:Nat):Int))) (q:=some (.int .i64 ((4*k+4:Nat):Int))) (m:=none) (p':=some (4*k)) (q':=some (4*k+4)) (m':=none) rfl rfl rfl rfl (by rw [dm (by omega),b9]) (by rw [dm (by omega),b9]) rfl (er (s.buf (k:=0) rfl).view (a:=4*k) (b:=4*k+4) (by omega) (by omega)).1) ?_
     refine zM rfl (aB.op rfl rfl rfl (by simp only [isEff,cE]) (cJ rfl (Gw (by omega))) ?_)
     have s:=s.HF
     refine aB.any rfl rfl rfl rfl (OpR.call rfl rfl rfl rfl (Df (z:=4) (n:=w) hT s (by decide) (by simp))) ?_
     intro v h s
     rw [cZ] at s
     have s:=s.ae [1,0]
     have s1:=s
     refine aB.any rfl rfl rfl rfl (OpR.Tq (p:=4*k) (q:=4*k+4) rfl s (bg _ _) rfl rfl rfl rfl (by omega) (by omega) (by rw [cy]; omega)) ?_
     intro _ h s
     rw [dO (by rw [cy]; omega)] at s
     have s:Sat h (aZ u (xW R k w)::_):=s
     refine aB.nil ⟨⟨fun _ _=>.inr ⟨rfl,⟨_,bz rfl⟩,uw⟩,fun _ _=>.inr ⟨rfl,⟨_,bz rfl⟩,bq _ rfl⟩,fun _ _=>.inr ⟨rfl,⟨_,af (r:=.int .i64 ((4*k:Nat):Int)) rfl rfl (by rw [←h4k]; exact kA (aC (by omega) (by omega)))⟩,bq _ rfl⟩,fun _ _=>.inr ⟨rfl,⟨_,bz rfl⟩,bq _ rfl⟩,fun _ _=>.inr ⟨rfl,⟨_,af (r:=.int .i64 ((k:Int)+1)) rfl rfl (br (aC (by omega) (by omega)))⟩,bq _ rfl⟩,fun _ _=>.inr ⟨rfl,⟨_,af (r:=.int .i64 ((4*k+4:Nat):Int)) rfl rfl (by rw [←XG]; exact kA (aC (by omega) (by omega)))⟩,bq _ rfl⟩,dW (.inr ⟨rfl,⟨_,cf (p:=some (.int .i64 ((4*k:Nat):Int))) (q:=some (.int .i64 ((4*k+4:Nat):Int))) (m:=none) (p':=some (4*k)) (q':=some (4*k+4)) (m':=none) rfl rfl rfl rfl (by rw [dm (by omega),b9]) (by rw [dm (by omega),b9]) rfl (er (s0.buf (k:=0) rfl).view (a:=4*k) (b:=4*k+4) (by omega) (by omega)).1⟩,zT⟩) (.inr ⟨rfl,⟨_,cf (p:=some (.int .i64 ((4*k:Nat):Int))) (q:=some (.int .i64 ((4*k+4:Nat):Int))) (m:=none) (p':=some (4*k)) (q':=some (4*k+4)) (m':=none) rfl rfl rfl rfl (by rw [dm (by omega),b9]) (by rw [dm (by omega),b9]) rfl (er (s1.buf (k:=0) rfl).view (a:=4*k) (b:=4*k+4) (by omega) (by omega)).1⟩,zT⟩),aa,aa,aa,aa,aa⟩,?_⟩
     have s:=s.ae [2,0]
     refine zK 3 rfl (zc rfl (Zb (n:=0) hT hB pO hw (by decide) (by omega) s) ?_)
     rintro v h ⟨w2,qo,rfl,sB,nN,s⟩
     have aa7:dX (fR now I 0) 201 N ex [fB,R]:=by rw [kG]; exact pX
     have s:=s.ae [0,1]
     refine zk 10 rfl (zh rfl (af rfl rfl aN) (rfl) (zk 8 rfl (zc rfl (E5 (i:=1) (c:=R) hT s (bg _ _) (bg _ _) aa7 rfl (by rw [IM nM (by omega),nM])) ?_)))
     rintro v h ⟨w3,b',rfl,J,s⟩
     have J:dX b' 201 N ex [fB,xW R k w]:=J
     refine zk 9 rfl (zh rfl (af rfl rfl aN) (rfl) (zk 7 rfl (zc rfl (Be (i:=0) hT hB sB hw (by omega) (s.ae [3,0]) (bg _ _) J) ?_)))
     rintro v h ⟨DD,rfl,yt,sC,Ai,s⟩
     refine zk 2 rfl (WP.ret ⟨aa,_,rfl,?_⟩)
     have MT:∀m:Int,m≠0→fR (cB (0:Nat) b' now) DD m=fR now ε m:=fun m hm=>by rw [kr,ah (by omega),mQ sC,mQ nN,kG]
     refine ⟨DD,_,yt,(ig.trans nN).trans sC,Ai,xS,?_,.inr ⟨by omega,by omega,by omega,by omega,rfl,?_,MT⟩⟩
     ·exact (((s.del 4).del 3).del 2).del 1
     ·rw [b9,b9]
      exact hp.roots (MT 1 (by decide)) ⟨ex,by rw [kr,aj (show ((0:Nat):Int)=0 from rfl)]; exact J⟩ (IM nM (by omega))
end
section
variable {told:cQ} {h:H} {S:List au} {X:au} {v w:V} {l m:List Nat}
end
theorem Sd {k:Int}{m:Nat}(hm:m<65536): ∃r:Nat,r≤m∧∀ {P:Program} {h:H} {t:TypeId} {x y:Operand},binV P h .and t x y (.int .i64 k) (.int .i64 (m:Int))=some (.int .i64 (r:Int)):=by
 refine ⟨Nat.land ((k%(2^(IntKind.i64).bits:Int)).toNat) m,Nat.and_le_right,fun {P h t x y} => ?_⟩
 have I:(((m:Nat):Int)%(2^(IntKind.i64).bits:Int)).toNat=m:=by simp only [IntKind.bits]; omega
 simp only [binV,ikBeq,ag,intV,bitsV,I]
 have hle:Nat.land ((k%(2^(IntKind.i64).bits:Int)).toNat) m≤m:=Nat.and_le_right
 rw [wrap_i64 (n:=Nat.land ((k%(2^(IntKind.i64).bits:Int)).toNat) m) (by omega)]
def PL (i:Nat): List Nat:=(List.range (i-2)).map (· + 2)
def IN (n:Nat): List Bool:=((List.replicate n false).set 0 true).set 1 true
theorem Vk {n:Nat}: (IN n).length=n:=by unfold IN; rw [bW,bW,cY]
theorem Vl {n i:Nat}(hi:i<n): (IN n).getD i false=decide (i<2):=by
 unfold IN
 rw [dU]
 by_cases I:i=1
 ·subst I; rw [gw (by rw [bW,cY]; exact hi)]; rfl
 ·rw [ff (by omega)]
  by_cases J:i=0
  ·subst J; rw [gw (by rw [cY]; exact hi)]; rfl
  ·rw [ff (by omega),Au,aj hi,eU (by omega)]; rfl
section
variable {told:cQ} {h:H} {S:List au} {X Y:au} {N B n g a p q r aH i0:Nat} {v w x y rv uv hv ov ev:V} {Rt:List V} {U:List Bool} {b l c R M data L oc:List Nat} {ε:aI} {now:List (Int×List Nat)}
theorem PN (hT:W told)(hn:2≤n)(sA:n≤3000)(s:Sat h S): Call ⟨Tryz.prog,told⟩ 28 [.int .i64 (n:Int)] h fun v h'=>∃uv,v=.agg (uv::F8)∧storable uv=true∧Sat h' (mC uv (fV (IN n))::S):=by
 obtain ⟨i1,kB,jF,wL⟩:=FQ
 refine Call.of_wp (hT.free _ rfl) Tryz.func28 rfl rfl (zg rfl ?_)
 refine aA.b5 s rfl rfl rfl (bX EA) (fun p2 h s => ?_)
 dsimp only [V.cells,List.length_cons,List.length_nil,Nat.reduceAdd] at s
 refine zk 3 rfl ?_
 refine aA.b5 s rfl rfl rfl (bX EA) (fun p3 h s => ?_)
 dsimp only [V.cells,List.length_cons,List.length_nil,Nat.reduceAdd] at s
 refine zk 4 rfl ?_
 obtain ⟨uv,h1,e1,s1⟩:=u_ (P:=Tryz.prog) s mq kB WH jF (by omega) rfl (by decide) (by decide) (n:=n) (c:=n) (aD _) (by omega)
 refine aA.any rfl rfl rfl (OpR.of (R:=fun v h'=>v=uv∧h'=h1) (sK rfl rfl e1) ⟨rfl,rfl⟩) ?_
 rintro uv h ⟨rfl,rfl⟩
 have s:Sat h (.arr 1 uv (repeatL [V.bool false] n)::_):=s1
 rw [U1] at s
 have dS:fV (List.replicate n false)≠[]:=fun e=>by have:=gy List.length e; rw [m9,cY] at this; simp at this; omega
 obtain ⟨id,m,cap,M,rest,rfl,_⟩:=s.EM dS
 have s:=s.ae [1,1,0]
 dsimp only [bringA,getA,aQ] at s
 refine zf rfl (kY _ _) ?_
 refine zS rfl (by exact s.ey (k:=0) rfl WL rfl (by decide) rfl rfl) (fun h s => ?_)
 dsimp only [Nat.reduceAdd,List.set,setA] at s
 refine zk 6 rfl (WP.block (WP.loop (zK 5 rfl (zc rfl (Bh hT (n:=n) (by omega) (by omega)) ?_))))
 rintro v h' ⟨rfl,rfl⟩
 refine zt rfl (af rfl rfl aT) (by decide) ?_
 obtain ⟨kZ,I,h2,e2,e3,s2⟩:=DH (P:=Tryz.prog) (x:=.bool true) (i:=0) (s.ae [2]) (by rw [m9,cY]; omega) rfl rfl mq uf
 rw [EP] at s2
 refine zk 4 rfl (WP.block (zr rfl (zf rfl (kY _ _) (zl rfl (s.ld (k:=0) rfl qY rfl) (zm rfl (zo rfl (dr (r:=.ptr kZ I) rfl rfl e2) (zS rfl (⟨h2,e3,s2⟩) ?_)))))))
 rintro h s
 have s:=s.ae [1,1,0]
 dsimp only [aQ,bringA,getA] at s
 refine zv (zr rfl (zm rfl (zb rfl (by exact br (aC (by omega) (by omega))) ?_)))
 refine za rfl (zv (WP.loop (zw (zg rfl (zk 2 rfl (zc rfl (Bh hT (n:=n) (by omega) (by omega)) ?_))))))
 rintro v h' ⟨rfl,rfl⟩
 refine zt rfl (af rfl rfl aT) (by decide) ?_
 obtain ⟨IB,J,h3,e4,e5,s3⟩:=DH (P:=Tryz.prog) (x:=.bool true) (i:=1) (s.ae [2]) (by rw [m9,bW,cY]; omega) rfl rfl mq uf
 rw [EP] at s3
 refine zv (zi rfl (WP.skip (zw (WP.block (zr rfl (zf rfl (kY _ _) (zl rfl (by exact s.ld (k:=0) rfl qY rfl) ?_)))))))
 refine zm rfl (zo rfl (dr (r:=.ptr IB J) rfl rfl e4) (zS rfl (⟨h3,e5,s3⟩) ?_))
 rintro h s
 have s:=s.ae [1,1,0]
 dsimp only [aQ,bringA,getA] at s
 refine zk 3 rfl (zb rfl (by exact br (aC (by omega) (by omega))) ?_)
 refine za rfl (zv (WP.loop (zw (zg rfl (zk 2 rfl (zc rfl (Bh hT (n:=n) (by omega) (by omega)) ?_))))))
 rintro v h' ⟨rfl,rfl⟩
 refine zh rfl (af rfl rfl aT) (by decide) ?_
 refine zk 2 rfl (WP.exit (zg rfl (zl rfl (s.cA (k:=0) rfl nE ja) ?_)))
 refine zS rfl (s.eH (j:=1) rfl ja rfl rfl) (fun h s => ?_)
 refine zv ?_
 refine WP.ret ⟨aa,_,TJ rfl (s.cA (k:=1) rfl nE ja),?_⟩
 have s4:=DG (s.ae [2]) (by rw [m9,bW,bW,cY]; omega)
 exact ⟨_,rfl,rfl,(s4.del 2).del 1⟩
theorem PO (I:WS told)(s:Sat h S): Call ⟨Tryz.prog,told⟩ 20 [] h fun v h'=>v=.bool true∧Sat h' S:=by
 refine Call.of_wp (I.w.free _ rfl) Tryz.func20 rfl rfl (zK 6 rfl (zc rfl (Gv (n:=8) (m:=8192) (f:=8) I (by decide) (by decide) (by decide) (by decide) (by decide) (by decide) s) ?_))
 rintro v h ⟨p,a,q,r,ε,rfl,J,hp,hd,s⟩
 refine zk 6 rfl (zh rfl (af rfl rfl (vh qn)) (rfl) (zk 6 rfl (zc rfl (F7 I.w s) ?_)))
 rintro v h ⟨g,rfl,s⟩
 refine zk 6 rfl (zh rfl (af rfl rfl (vh ql)) (rfl) (zk 6 rfl (zc rfl (R4 (lo:=2) I.w (by decide) J (NW.nil 8) hp (by decide) (by rw [DF]; rfl) (fun j hj=>by rw [DF,fo hj]) s) ?_)))
 rintro v h ⟨ε',cS,rfl,_,_,_,_,_,_,s⟩
 refine zk 9 rfl (zt rfl (af rfl rfl eA) (by decide) ?_)
 refine zk 2 rfl (zt rfl (af rfl rfl eA) (by decide) ?_)
 exact zk 3 rfl (WP.ret ⟨aa,_,rfl,rfl,s.drop⟩)
end
section
variable {h:H} {S:List au} {u:V} {U:List Bool}
theorem PR (s:Sat h (mC u (fV U)::S))(h1:1≤U.length)(h2:U.length≤1048576):
  ∃w h',appendV Tryz.prog h #[50,50] .bw u=some (w,h')∧Sat h' (.arr 1 w (fV U)::mC u (fV U)::S):=by
 obtain ⟨i1,kB,jF,I⟩:=FQ
 have hz:=WH
 have sx:=m9 U
 have fN:(fV U).all storable=true:=by
  rw [fV,lQ]
  intro x hx
  obtain ⟨b,_,rfl⟩:=List.mem_map.1 hx
  rfl
 obtain ⟨id,M,rest,cap,st,rfl,hM,_,hg⟩:=s.MP (j:=0) rfl
 have J:srcV h 1 (.sl id 0 (fV U).length cap)=some (fV U,(fV U).length):=by
  simp only [srcV,c9]
  rw [zB hg (by rw [bx,hM]) (by omega),eu,ke rfl]
  rfl
 have hgw:kO (fV U).length i1.bytes=true:=by
  simp only [kO,I,aO,aJ]
  omega
 refine ⟨_,_,?_,(s.new (.cells ((fV U).length*1) ([]++fV U) false)).hO fun a r yo=>⟨fN,.inr ⟨h.next,(fV U).length,.rest 1 0,(fV U).length*1,[],rfl,by rw [bR]; exact yo,by rw [c9],by rw [c9]; rfl,rfl,rfl,rfl,rfl,by omega⟩⟩⟩
 unfold appendV
 simp only [mq,kB,hz,jF,I,J]
 rw [show (Nat.ble 1 1&&Nat.ble 1 4096&&Nat.beq (V.bool false).cells.length 1)=true from rfl,ag,dc (by omega:(fV U).length≠0),az]
 rw [I] at hgw
 rw [hgw,ag]
 rfl
end
section
variable {told:cQ} {h:H} {S:List au} {uv:V} {Rt:List V} {U:List Bool}
theorem MU (hT:W told)(I:(uv::Rt).all storable=true)(hR:Rt.length=16)(h1:1≤U.length)(hu:U.length≤3000)(s:Sat h (mC uv (fV U)::S)):
  Call ⟨Tryz.prog,told⟩ 75 [.agg (uv::Rt)] h fun v h'=>∃w,v=.agg (w::Rt)∧Sat h' (.arr 1 w (fV U)::mC uv (fV U)::S):=by
 have xu:Rt.all storable=true:=by simp only [fH,aO] at I; exact I.2
 refine Call.of_wp (hT.free _ rfl) Tryz.func75 rfl rfl (zg rfl (aA.b5 s rfl rfl rfl (fe rfl I) ?_))
 intro p1 h s
 dsimp only [V.cells,List.length_cons] at s
 rw [hR] at s
 have s:Sat h (pt p1 (.cells 17 (uv::Rt) false)::_):=s
 refine aA.b5 s rfl rfl rfl (bX EA) (fun p2 h s => ?_)
 refine zk 8 rfl (zf rfl (kY _ _) (zl rfl (s.ld (k:=1) rfl qY rfl) ?_))
 have s:=s.ae [2,0,0]
 obtain ⟨w,h2,e1,s2⟩:=PR s h1 (by omega)
 refine aA.any rfl rfl rfl (OpR.of (R:=fun v h'=>v=w∧h'=h2) (mF rfl rfl e1) ⟨rfl,rfl⟩) ?_
 rintro w h ⟨rfl,rfl⟩
 have s:=s2.ae [3,2,0,0]
 dsimp only [V.cells,List.length_cons,List.length_nil,Nat.reduceAdd,aQ,bringA,getA] at s
 have J:=s.jb (j:=2) rfl
 refine zf rfl (kY _ _) (zS rfl (s.ey (k:=0) rfl WL (by rw [aS,hR]) (by decide) J.1 J.2.1) ?_)
 rintro h s
 have s:Sat h (pt p1 (.cells 17 (w::Rt) false)::_):=s
 have hws:(w::Rt).all storable=true:=by rw [fH,J.2.1,xu]; rfl
 refine zk 3 rfl (zl rfl (s.cA (k:=0) rfl nE ja) (zS rfl (s.eH (j:=1) rfl ja (by rw [aS,hR]) hws) ?_))
 rintro h s
 refine zv ?_
 refine WP.ret ⟨aa,_,TJ rfl (s.cA (k:=1) rfl nE ja),?_⟩
 have s:=s.drop
 have s:=s.drop
 exact ⟨w,rfl,s⟩
end
structure F9 (N:Nat)(R M:List Nat)(P:Int→List Nat)(Rt:List V)(U:List Bool): Prop where
 BP:iH N R M P
 rt:BO R Rt
 ul:U.length=N
 us:∀i,i<N→U.getD i false=bt M i
theorem Zc {P:Program}{E:List (Nat×V)}{h:H}{a b t:Nat}{p v w:V}(I:look E a=some p)(J:loadV P h t p=some v)(h2:look E b=some w): iI P E h [.cell a t,.tmp b]=some (.bj [v,w]):=by
 simp only [iI,mapO,resE,I,J,h2]
theorem wR {R:List Nat}{Rt:List V}{u:V}(h:BO R Rt)(hu:storable u=true): (u::Rt).all storable=true:=by
 rw [fH,hu,h.st]; rfl
section
variable {told:cQ} {h:H} {S:List au} {N B g a p q r aH p4 p5 p6:Nat} {v w uv:V} {Rt ds XH:List V} {U:List Bool} {R M data:List Nat} {ε:aI} {now:List (Int×List Nat)} {Q:Ex→List (Nat×V)→H→Prop}
def StQ (N B g a p q r aH p4 p5 p6:Nat)(data:List Nat)(ds:List V)(S:List au)(ε:aI)(now:List (Int×List Nat))(Q:Ex→List (Nat×V)→H→Prop): Prop :=
 ∀(I:V) (J:List V) (U':List Bool) (ε':aI) (cS:List (Int×List Nat)) (R' M':List Nat) (E':List (Nat×V)) (h':H),EI N B ε'→Sm N ε ε'→NW N cS→cS.length≤now.length+2→F9 N R' M' (fR cS ε') J U'→look E' 6=some (.ptr p6 0)→look E' 7=some (.bool true) →
  Sat h' (pt p4 (.cells 17 (I::J) false)::pt p5 (.cells 3 ds false)::pt p6 (.cells 17 (I::J) false)::.arr 1 I (fV U')::GA g a p q r data aH cS ε'::S)→Q .ret E' h'
end
theorem BO.set {R:List Nat}{Rt:List V}{k w:Nat}(h:BO R Rt)(hR:R.length=64)(hk:k<16)(hw:w<4294967296): BO (xW R k w) (Rt.set k (.int .i64 (w:Int))):=by
 have hl:=h.len
 refine ⟨by rw [bW]; exact hl,?_,fun i hi => ?_⟩
 ·have:=h.st
  rw [lQ] at this ⊢
  intro x J
  rcases lM J with J | rfl
  ·exact this x J
  ·rfl
 ·rw [Vj hR hk hw]
  by_cases I:i=k
  ·subst I; rw [gw (by omega),aj rfl]
  ·rw [ff (by omega),ah I]; exact h.val i hi
section
variable {told:cQ} {h:H} {S:List au} {N B g a p q r aH p4 p5 p6:Nat} {v w uv:V} {Rt ds XH:List V} {U:List Bool} {R M data:List Nat} {ε:aI} {now:List (Int×List Nat)} {Q:Ex→List (Nat×V)→H→Prop} {x y z:Int}
end
section
variable {told:cQ} {h:H} {S:List au} {N B g a p q r aH p4 p5 p6:Nat} {v w uv:V} {Rt ds XH:List V} {U:List Bool} {R M data:List Nat} {ε:aI} {now:List (Int×List Nat)} {Q:Ex→List (Nat×V)→H→Prop} {x y z:Int}
noncomputable def spR : Code:=dB [1,1,1] ((Tryz.f32.body).getD .skip)
theorem Zd (hT:W told)(hB:B≤2000)(mo:EI N B ε)(hw:NW N now)(hm:F9 N R M (fR now ε) Rt U)
 (s:Sat h (pt p4 (.cells 17 (uv::Rt) false)::pt p5 (.cells 3 [.int .i64 z,.int .i64 x,.int .i64 y] false)::pt p6 (.cells 17 XH false)::.arr 1 uv (fV U)::GA g a p q r data aH now ε::S)){E:List (Nat×V)}(hE:Has E [(0,.ptr g 0),(4,.ptr p4 0),(5,.ptr p5 0),(6,.ptr p6 0)])(hq:StQ N B g a p q r aH p4 p5 p6 data [.int .i64 z,.int .i64 x,.int .i64 y] S ε now Q):
  WP ⟨Tryz.prog,told⟩ 158 spR E h Q:=by
 have ux:=hm.BP.n1
 have sA:=hm.BP.n2
 have zW:=hm.ul
 have nM:=hm.rt.len
 have IP:=s.jb (j:=3) rfl
 have fN:=wR hm.rt IP.2.1
 refine WP.has hE (zK 3 rfl (zf rfl (wB _ _) (zl rfl (s.ld (k:=1) rfl dL rfl) (zf rfl (wC _ _) (zl rfl (s.ld (k:=1) rfl dL rfl) (zc rfl (MS (i:=x) (z:=y) hT hB mo hw hm.BP (s.ae [4])) ?_))))))
 rintro v h ⟨sn,I,J,ig,pY,wM,s,hor⟩
 have s:=s.ae [1,1,1,1,0]
 have hlen:=s.iB (P:=Tryz.prog) (n:=N) (j:=3) rfl (by rw [m9,c9,zW]) (by decide) mq
 have s0:=s
 rcases hor with ⟨G2,rfl,rfl⟩ | ⟨hx0,yS,hy0,hy1,rfl,F2,H9⟩
 ·have s:=s0
  have uo:F9 N R M (fR I sn) Rt U:=⟨by rw [mQ ig]; exact hm.BP,hm.rt,hm.ul,hm.us⟩
  refine zk 5 rfl (zf rfl (wB _ _) (zl rfl (s.ld (k:=1) rfl dL rfl) ?_))
  by_cases h1:x<0
  ·skip
   refine zt rfl (af rfl rfl aT) (by simp; omega) ?_
   refine zk 22 rfl (zl rfl (s.cA (k:=0) rfl nE ja) (zm rfl (zt rfl (af rfl rfl eA) (by decide) ?_)))
   refine zS rfl (s.eH (j:=2) rfl ja (by rw [aS,nM]) fN) ?_
   rintro h s
   exact zk 2 rfl (WP.ret (hq uv Rt U sn I R M _ _ J ig pY (by omega) uo rfl rfl s))
  ·skip
   refine zh rfl (af rfl rfl aT) (by simp; omega) ?_
   refine zm rfl (zf rfl (wB _ _) (zl rfl (s.ld (k:=1) rfl dL rfl) ?_))
   by_cases h2:15<x
   ·skip
    refine zt rfl (af rfl rfl gv) (by simp; omega) ?_
    refine zk 18 rfl (zl rfl (s.cA (k:=0) rfl nE ja) (zm rfl (zt rfl (af rfl rfl eA) (by decide) ?_)))
    refine zS rfl (s.eH (j:=2) rfl ja (by rw [aS,nM]) fN) ?_
    rintro h s
    exact zk 2 rfl (WP.ret (hq uv Rt U sn I R M _ _ J ig pY (by omega) uo rfl rfl s))
   ·skip
    refine zh rfl (af rfl rfl gv) (by simp; omega) ?_
    refine zk 2 rfl (zf rfl (wC _ _) (zl rfl (s.ld (k:=1) rfl dL rfl) ?_))
    by_cases h3:y<0
    ·skip
     refine zt rfl (af rfl rfl aT) (by simp; omega) ?_
     refine zk 13 rfl (zl rfl (s.cA (k:=0) rfl nE ja) (zm rfl (zt rfl (af rfl rfl eA) (by decide) ?_)))
     refine zS rfl (s.eH (j:=2) rfl ja (by rw [aS,nM]) fN) ?_
     rintro h s
     exact zk 2 rfl (WP.ret (hq uv Rt U sn I R M _ _ J ig pY (by omega) uo rfl rfl s))
    ·skip
     refine zh rfl (af rfl rfl aT) (by simp; omega) ?_
     refine zk 2 rfl (zf rfl (wC _ _) (zl rfl (s.ld (k:=1) rfl dL rfl) (zf rfl (kY _ _) (zl rfl (s.ld (k:=0) rfl qY rfl) (zo rfl (aU rfl rfl rfl hlen) (zt rfl (af rfl rfl mG) (by simp; omega) ?_))))))
     refine zk 5 rfl (zl rfl (s.cA (k:=0) rfl nE ja) (zm rfl (zt rfl (af rfl rfl eA) (by decide) ?_)))
     refine zS rfl (s.eH (j:=2) rfl ja (by rw [aS,nM]) fN) ?_
     rintro h s
     exact zk 2 rfl (WP.ret (hq uv Rt U sn I R M _ _ J ig pY (by omega) uo rfl rfl s))
 ·obtain ⟨k,rfl⟩:∃k:Nat,x=k:=⟨x.toNat,by omega⟩
  obtain ⟨n,rfl⟩:∃n:Nat,y=n:=⟨y.toNat,by omega⟩
  rw [b9,b9] at F2
  have Se:=hm.rt.set (k:=k) (w:=n) hm.BP.rl (by omega) (by omega)
  have aa8:=wR Se IP.2.1
  have aa9:=Se.len
  refine zk 5 rfl (zf rfl (wB _ _) (zl rfl (s.ld (k:=1) rfl dL rfl) (zh rfl (af rfl rfl aT) (decide_eq_false (by omega)) ?_)))
  refine zm rfl (zf rfl (wB _ _) (zl rfl (s.ld (k:=1) rfl dL rfl) (zh rfl (af rfl rfl gv) (decide_eq_false (by omega)) ?_)))
  refine zk 2 rfl (zf rfl (wC _ _) (zl rfl (s.ld (k:=1) rfl dL rfl) (zh rfl (af rfl rfl aT) (decide_eq_false (by omega)) ?_)))
  refine zk 2 rfl (zf rfl (wC _ _) (zl rfl (s.ld (k:=1) rfl dL rfl) (zf rfl (kY _ _) (zl rfl (s.ld (k:=0) rfl qY rfl) (zo rfl (aU rfl rfl rfl hlen) (zh rfl (af rfl rfl mG) (by simp; omega) ?_))))))
  refine zk 6 rfl (zf rfl (wB _ _) (zl rfl (s.ld (k:=1) rfl dL rfl) (zf rfl (wC _ _) (zl rfl (s.ld (k:=1) rfl dL rfl) (zf rfl (HA _ _) (zo rfl (dr (r:=.ptr p4 (0+1+k)) rfl rfl (by rw [WM,show (decide (0≤(k:Int))&&decide ((k:Int)<((16:Nat):Int)))=true by simp; omega,ag]; simp)) ?_))))))
  refine zS rfl (s.ey (k:=0) (off:=0+1+k) (v:=.int .i64 (n:Int)) rfl kW (by rw [aS,nM]) (by omega) rfl rfl) ?_
  rintro h s
  have e17:(uv::Rt).set (0+1+k) (.int .i64 (n:Int))=uv::Rt.set k (.int .i64 (n:Int)):=by rw [show 0+1+k=k+1 by omega,Ax]
  rw [e17] at s
  refine zk 3 rfl (zl rfl (s.cA (k:=0) rfl nE ja) (zm rfl (zt rfl (af rfl rfl eA) (by decide) ?_)))
  refine zS rfl (s.eH (j:=2) rfl ja (by rw [aS,aa9]) aa8) ?_
  rintro h s
  exact zk 2 rfl (WP.ret (hq uv _ U sn I (xW R k n) M _ _ J ig pY (by omega) ⟨F2,Se,hm.ul,hm.us⟩ rfl rfl s))
end
section
variable {told:cQ} {h:H} {S:List au} {N B K M a p q r aH:Nat} {data:List Nat} {ε:aI}
end
theorem iH.aa_ {N:Nat}{R M:List Nat}{P P':Int→List Nat}(h:iH N R M P)(I:P' 0=P 0)(J:P' 1=P 1): iH N R M P':=h.roots J (by rw [I]; exact h.head) h.rl
def yw (L:List (Int×Int×Int)): List V:=L.flatMap fun d=>[.int .i64 d.1,.int .i64 d.2.1,.int .i64 d.2.2]
theorem Vm : ∀(L:List (Int×Int×Int)),(yw L).length=L.length*3:=by
 intro L
 induction L with
 | nil=>rfl
 | cons d L I =>
  have e:yw (d::L)=[.int .i64 d.1,.int .i64 d.2.1,.int .i64 d.2.2]++yw L:=rfl
  rw [e,bx,I]
  simp only [aS,bT]
  omega
theorem Lj : ∀ {L:List (Int×Int×Int)} {i:Nat} {d:Int×Int×Int},L[i]?=some d→((yw L).drop (i*3)).take 3=[.int .i64 d.1,.int .i64 d.2.1,.int .i64 d.2.2]:=by
 intro L
 induction L with
 | nil=>intro i d h; simp at h
 | cons e L I =>
  intro i d h
  cases i with
  | zero=>simp at h; subst h; rfl
  | succ i =>
   rw [show (i+1)*3=i*3+3 by omega]
   exact I (by simpa using h)
section
variable {h:H} {S:List au} {N g a p q r aH:Nat} {data:List Nat} {ε:aI} {now:List (Int×List Nat)}
end
section
variable {told:cQ} {h:H} {S:List au} {N B K g a p q r aH p7 p9 i:Nat} {v w dv uk un:V} {Rk Rn:List V} {Uk Un:List Bool} {R M data:List Nat} {ε:aI} {now:List (Int×List Nat)} {L:List (Int×Int×Int)}
theorem PS (I:W told)(s:Sat h (GA g a p q r data aH now ε::S)): Call ⟨Tryz.prog,told⟩ 33 [.ptr g 0] h fun v h'=>v=.bj []∧Sat h' (SA a p q r .cu data aH ε::S):=by
 have s:=bQ.1 s
 refine (Ry I s).mono ?_
 rintro v h' ⟨rfl,s⟩
 exact ⟨rfl,bQ.2 s.drop⟩
end
theorem JZ : ∀(k n:Nat),n<128^(k+1)→digits (k+1) n=digits k n:=by
 intro k
 induction k with
 | zero=>intro n I; rw [jH (by simpa using I),jH (by simpa using I)]
 | succ k J =>
  intro n I
  by_cases h:n<128
  ·rw [jH h,jH h]
  ·have hd:n/128<128^(k+1):=by
    rw [DW (by omega)]
    rw [o7] at I
    exact I
   rw [digits,ah h,J _ hd,digits,ah h]
set_option maxRecDepth 10000 in
theorem XI {n:Nat}(h:n<256): Nat.land n 127=n%128:=by
 have:∀m:Fin 256,Nat.land m.1 127=m.1%128:=by decide
 exact this ⟨n,h⟩
theorem J0 {n:Nat}(h:n<256): intV .and .u8 (n:Int) 127=some (.int .u8 ((n%128:Nat):Int)):=by
 have I:((n:Int)%(2^(IntKind.u8).bits:Int)).toNat=n:=by simp only [IntKind.bits]; omega
 have J:((127:Int)%(2^(IntKind.u8).bits:Int)).toNat=127:=by simp [IntKind.bits]
 simp only [intV,bitsV,I,J,XI h,wrap_u8]
 congr 2
 omega
theorem J1 {h:H}{n:Nat}(I:n<18446744073709551616): convV Tryz.prog h 5 43 (.int .u8 (n:Int))=some (.int .u64 (n:Int),h):=by
 simp only [convV,Tryz.underlying5,cE,wrap_u64 I]
theorem J2 {h:H}{n:Nat}(I:n<9223372036854775808): convV Tryz.prog h 5 3 (.int .u8 (n:Int))=some (.int .i64 (n:Int),h):=by
 simp only [convV,Tryz.underlying5,bD,wrap_i64 I]
theorem IQ {h:H}{n:Nat}(I:n<9223372036854775808): convV Tryz.prog h 43 3 (.int .u64 (n:Int))=some (.int .i64 (n:Int),h):=by
 simp only [convV,cE,bD,wrap_i64 I]
theorem IS (i:Nat): (128:Nat)^i=2^(7*i):=by rw [Nat.pow_mul]
theorem aba {d i:Nat}(hd:d<128)(hi:i≤8): shiftV .shl .u64 (d:Int) ((7*i:Nat):Int)=some (.int .u64 ((d*128^i:Nat):Int)):=by
 have J:(128:Nat)^i≤128^8:=sQ (by omega) hi
 have I:d*128^i<18446744073709551616:=by
  have:d*128^i≤127*128^8:=sZ (by omega) J
  omega
 simp only [shiftV,IntKind.bits,b9]
 rw [show min (7*i) 64=7*i by omega,show decide (((7*i:Nat):Int)<0)=false by simp; omega,az]
 have:(d:Int)*2^(7*i)=((d*128^i:Nat):Int):=by rw [IS]; push_cast; rfl
 simp only [this,wrap_u64 I]
theorem Vn {a d i:Nat}(I:a<128^i)(hd:d<128)(hi:i≤8): intV .or .u64 (a:Int) ((d*128^i:Nat):Int)=some (.int .u64 ((a+d*128^i:Nat):Int)):=by
 have J:(128:Nat)^i≤128^8:=sQ (by omega) hi
 have hm:d*128^i≤127*128^8:=sZ (by omega) J
 have h1:((a:Int)%(2^(IntKind.u64).bits:Int)).toNat=a:=by simp only [IntKind.bits]; omega
 have h2:((d*128^i:Nat):Int)%(2^(IntKind.u64).bits:Int)=((d*128^i:Nat):Int):=by simp only [IntKind.bits]; omega
 have h3:Nat.lor a (d*128^i)=a+d*128^i:=by
  have e:d*128^i=2^(7*i)*d:=by rw [←IS,qQ]
  have:=Ki (i:=7*i) (b:=a) (by rw [←IS]; exact I) d
  rw [←e] at this
  rw [tc a,this]
  exact Nat.or_comm _ _
 simp only [intV,bitsV,h1,h2,b9,h3]
 rw [wrap_u64 (by omega)]
section
variable {told:cQ} {h:H} {S:List au} {X:au} {c:Nat} {v w:V} {l m:List Nat}
theorem mK (I:W told): Call ⟨Tryz.prog,told⟩ 203 [.bool true] h fun v h'=>v=.bj []∧h'=h:=by
 refine Call.of_wp (I.free _ rfl) Tryz.func203 rfl rfl (zg rfl (zm rfl (zh rfl (eD rfl rfl) (rfl) (zv (zj rfl (WP.skip ?_))))))
 exact ⟨aa,_,rfl,rfl,rfl⟩
theorem Sf (J:W told){x:Nat}(s:Sat h (pt c (.cells 1 [v] false)::X::S))(hX:cT X (cU v (x::l))):
  Call ⟨Tryz.prog,told⟩ 199 [.ptr c 0] h fun r h'=>r=.int .u8 (x:Int)∧∃u,cT X (cU u l)∧Sat h' (pt c (.cells 1 [u] false)::X::S):=by
 have hv:=s.aE (k:=1) rfl hX
 obtain ⟨id,off,e1,e2⟩:=eP hv (i:=0) (b:=x) rfl
 have I:=eO hv (a:=1) (by simp)
 have hu:=I.2.1.cells
 refine Call.of_wp (J.free _ rfl) Tryz.func199 rfl rfl (zK 8 rfl (zf rfl (l9 _ _) (zl rfl (s.ld (k:=0) rfl bJ rfl) (zo rfl (aU rfl rfl rfl (a_ aG hv)) (zt rfl (af rfl rfl gv) (by simp) ?_)))))
 refine zc rfl (mK J) ?_
 rintro r h' ⟨rfl,rfl⟩
 refine zk 5 rfl (zf rfl (l9 _ _) (zl rfl (s.ld (k:=0) rfl bJ rfl) (zo rfl (dr (r:=.ptr id off) rfl rfl e1) (zl rfl e2 (zk 7 rfl (zf rfl (l9 _ _) (zl rfl (s.ld (k:=0) rfl bJ rfl) (zo rfl (cf (p:=some (.int .i64 1)) (q:=none) (m:=none) (p':=some 1) (q':=none) (m':=none) rfl rfl rfl rfl rfl rfl rfl I.1) (zn rfl (zf rfl (l9 _ _) (zS rfl (s.ey (k:=0) rfl gR rfl (by decide) hu.1 hu.2) ?_)))))))))))
 rintro h s
 exact zk 6 rfl (WP.ret ⟨aa,_,rfl,rfl,_,rq hX (by simp),s⟩)
def Cu (h:H)(c:Nat)(X:au)(S:List au)(l:List Nat): Prop:=∃v,cT X (cU v l)∧Sat h (pt c (.cells 1 [v] false)::X::S)
theorem E8 (I:W told){x:Nat}(J:Cu h c X S (x::l)): Call ⟨Tryz.prog,told⟩ 199 [.ptr c 0] h fun r h'=>r=.int .u8 (x:Int)∧Cu h' c X S l:=by
 obtain ⟨v,hX,s⟩:=J
 exact (Sf I s hX).mono fun r h' ⟨e,u,hU,s'⟩=>⟨e,u,hU,s'⟩
noncomputable def XJ : Code:=dB [1,1,0,0] ((Tryz.f200.body).getD .skip)
noncomputable def TL : Code:=unblk (leftC XJ)
noncomputable def nbC : Code:=cN (cN (cN TL))
theorem BQ (hT:W told){x i acc:Nat}{E:List (Nat×V)}{Q:Ex→List (Nat×V)→H→Prop}(hx:x<256)(hi:i≤8)(ha:acc<128^i)
 (hc:Cu h c X S (x::l))(h0:look E 0=some (.ptr c 0))(h2:look E 2=some (.int .u64 (acc:Int)))(I:look E 3=some (.int .i64 (i:Int)))
 (hq:∀E' h',look E' 0=some (.ptr c 0)→look E' 2=some (.int .u64 ((acc+x%128*128^i:Nat):Int))→look E' 3=some (.int .i64 (i:Int))→look E' 4=some (.int .u8 (x:Int))→Cu h' c X S l→WP ⟨Tryz.prog,told⟩ 38 nbC E' h' Q):
  WP ⟨Tryz.prog,told⟩ 38 TL E h Q:=by
 refine WP.seq (WP.region rfl ?_)
 refine zo rfl (bz h0) ?_
 refine zc rfl (E8 hT hc) (fun v h₁ ⟨e1,c1⟩ => ?_)
 subst e1
 refine aA.op rfl rfl rfl (eT rfl) (aA.nil ?_)
 refine WP.seq (WP.region rfl ?_)
 refine zo rfl (bz I) (zo rfl (af (v:=.int .i64 (i:Int)) (u:=.int .i64 9) (r:=.bool true) rfl rfl (by simp only [binV,ikBeq,ag,intV]; congr 2 <;> simp <;> omega)) ?_)
 refine zk 8 rfl ?_
 refine zc rfl (mK hT) (fun v J ⟨e2,rZ⟩=>aA.nil ?_)
 subst e2; subst rZ
 refine WP.seq (WP.region rfl ?_)
 refine zo rfl (bz h2) (zm rfl (zo rfl (af (v:=.int .u8 (x:Int)) (u:=.int .u8 127) rfl rfl (by simp only [binV,ikBeq,ag]; exact J0 hx)) ?_))
 refine zo rfl (cJ (v:=.int .u8 ((x%128:Nat):Int)) rfl (J1 (by omega))) ?_
 refine zo rfl (bz I) ?_
 refine aA.op rfl rfl rfl (af (v:=.int .i64 7) (u:=.int .i64 (i:Int)) (r:=.int .i64 ((7*i:Nat):Int)) rfl rfl (by
  simp only [binV,ikBeq,ag,intV]
  rw [show (7:Int)*(i:Int)=((7*i:Nat):Int) by push_cast; rfl,wrap_i64 (by omega)])) ?_
 refine zo rfl (af (v:=.int .u64 ((x%128:Nat):Int)) (u:=.int .i64 ((7*i:Nat):Int)) rfl rfl (by simp only [binV]; exact aba (by omega) hi)) ?_
 refine zo rfl (af (v:=.int .u64 (acc:Int)) rfl rfl (by simp only [binV,ikBeq,ag]; exact Vn ha (by omega) hi)) ?_
 refine aA.op rfl rfl rfl (eT rfl) (aA.nil ?_)
 exact hq _ _ h0 rfl I rfl c1
set_option maxRecDepth 4000 in
theorem DJ (hT:W told){m i acc:Nat}{E:List (Nat×V)}{Q:Ex→List (Nat×V)→H→Prop}(hi:i≤8)(hm:m<128)(hz:i=0∨0<m)(ha:acc<128^i)
 (hc:Cu h c X S (m::l))(h0:look E 0=some (.ptr c 0))(h2:look E 2=some (.int .u64 (acc:Int)))(h3:look E 3=some (.int .i64 (i:Int)))
 (hq:∀E' h',look E' 2=some (.int .u64 ((acc+m*128^i:Nat):Int))→Cu h' c X S l→Q .ret E' h'): WP ⟨Tryz.prog,told⟩ 38 (.loop XJ) E h Q:=by
 refine WP.loop (WP.seq (WP.block ?_))
 refine BQ hT (x:=m) (by omega) hi ha hc h0 h2 h3 (fun E1 h₁ q0 q2 q3 q4 c1 => ?_)
 rw [gY hm] at q2
 refine WP.seq (WP.region rfl ?_)
 refine zo rfl (bz q4) ?_
 refine aA.op rfl rfl rfl (af (v:=.int .u8 (m:Int)) (u:=.int .u8 128) (r:=.bool true) rfl rfl (by simp only [binV,ikBeq,ag,intV]; congr 2 <;> simp <;> omega)) (aA.nil ?_)
 refine WP.cond (t:=true) rfl (WP.seq (WP.region rfl ?_))
 refine zo rfl (bz q4) ?_
 by_cases Br:0<m
 ·refine aA.op rfl rfl rfl (af (v:=.int .u8 (m:Int)) (u:=.int .u8 0) (r:=.bool true) rfl rfl (by simp only [binV,ikBeq,ag,intV]; congr 2 <;> simp <;> omega)) ?_
  refine zk 4 rfl ?_
  refine zc rfl (mK hT) (fun v I ⟨e2,J⟩=>aA.nil ?_)
  subst e2; subst J
  refine WP.seq (WP.region rfl ?_)
  exact zo rfl (bz q2) (aA.op rfl rfl rfl (eT rfl) (aA.nil (WP.ret (hq _ _ rfl c1))))
 ·have hi0:i=0:=by omega
  have abb:m=0:=by omega
  subst hi0; subst abb
  refine zo rfl (af (v:=.int .u8 0) (u:=.int .u8 0) (r:=.bool false) rfl rfl rfl) (zm rfl (zo rfl (bz q3) (zo rfl (af (v:=.int .i64 0) (u:=.int .i64 0) (r:=.bool true) rfl rfl rfl) (zp rfl ?_))))
  refine zc rfl (mK hT) (fun v I ⟨e2,J⟩=>aA.nil ?_)
  subst e2; subst J
  refine WP.seq (WP.region rfl ?_)
  exact zo rfl (bz q2) (aA.op rfl rfl rfl (eT rfl) (aA.nil (WP.ret (hq _ _ rfl c1))))
set_option maxRecDepth 4000 in
theorem J3 (hT:W told): ∀(k m i acc:Nat) (h:H) (E:List (Nat×V)) (Q:Ex→List (Nat×V)→H→Prop),i+k≤8→m<128^(k+1)→(i=0∨0<m)→acc<128^i →
  Cu h c X S (digits k m++l)→look E 0=some (.ptr c 0)→look E 2=some (.int .u64 (acc:Int))→look E 3=some (.int .i64 (i:Int)) →
  (∀E' h',look E' 2=some (.int .u64 ((acc+m*128^i:Nat):Int))→Cu h' c X S l→Q .ret E' h')→WP ⟨Tryz.prog,told⟩ 38 (.loop XJ) E h Q:=by
 intro k
 induction k with
 | zero =>
  intro m i acc h E Q hi hm hz ha hc h0 h2 h3 hq
  have I:m<128:=by simpa using hm
  rw [jH I] at hc
  exact DJ hT (by omega) I hz ha hc h0 h2 h3 hq
 | succ k ih =>
  intro m i acc h E Q hi hm hz ha hc h0 h2 h3 hq
  by_cases I:m<128
  ·rw [jH I] at hc
   exact DJ hT (by omega) I hz ha hc h0 h2 h3 hq
  ·have hd:m/128<128^(k+1):=by
    rw [DW (by omega)]
    rw [o7] at hm
    exact hm
   rw [digits,ah I] at hc
   refine WP.loop (WP.seq (WP.block ?_))
   refine BQ hT (x:=m%128+128) (by omega) (by omega) ha hc h0 h2 h3 (fun E1 h₁ q0 q2 q3 q4 c1 => ?_)
   refine WP.seq (WP.region rfl ?_)
   refine zo rfl (bz q4) ?_
   refine aA.op rfl rfl rfl (af (v:=.int .u8 ((m%128+128:Nat):Int)) (u:=.int .u8 128) (r:=.bool false) rfl rfl (by simp only [binV,ikBeq,ag,intV]; congr 2 <;> simp <;> omega)) (aA.nil ?_)
   refine WP.cond (t:=false) rfl (WP.skip ?_)
   refine zr rfl (zo rfl (bz q3) (zo rfl (af (v:=.int .i64 (i:Int)) (u:=.int .i64 1) (r:=.int .i64 ((i+1:Nat):Int)) rfl rfl (by exact br (aC (by omega) (by omega)))) ?_))
   refine aA.op rfl rfl rfl (eT rfl) (aA.nil ?_)
   have e1:(m%128+128)%128=m%128:=by omega
   rw [e1] at q2
   have J:128^(i+1)=128^i*128:=o7 128 i
   refine ih (m/128) (i+1) (acc+m%128*128^i) h₁ _ Q (by omega) hd (.inr (by omega)) ?_ c1 q0 q2 rfl (fun E' h' p1 p3=>hq E' h' ?_ p3)
   ·have:m%128*128^i≤127*128^i:=qD _ (by omega)
    rw [J]; omega
   ·rw [p1]
    have:acc+m%128*128^i+m/128*128^(i+1)=acc+m*128^i:=by
     rw [J,qQ (128^i) 128,←Nat.mul_assoc,gx,←iw]
     congr 2
     omega
    rw [this]
theorem vn (I:W told){n:Nat}(J:n<9223372036854775808)(hc:Cu h c X S (digits 9 n++l)):
  Call ⟨Tryz.prog,told⟩ 200 [.ptr c 0] h fun v h'=>v=.int .u64 (n:Int)∧Cu h' c X S l:=by
 rw [JZ 8 n (by simpa using J)] at hc
 refine Call.of_wp (I.free _ rfl) Tryz.func200 rfl rfl (zK 8 rfl (WP.block ?_))
 refine J3 I 8 n 0 0 h _ _ (by omega) (by simpa using J) (.inl rfl) (by simp) hc rfl rfl rfl (fun E' h' q1 q2=>⟨aa,_,?_,rfl,q2⟩)
 have:0+n*128^0=n:=by simp
 rw [this] at q1
 show iI _ E' h' [.tmp 2]=_
 simp only [iI,mapO,resE,q1]
theorem xX (I:W told){n:Nat}(hn:n≤1048576)(J:Cu h c X S (digits 9 n++l)):
  Call ⟨Tryz.prog,told⟩ 202 [.ptr c 0] h fun v h'=>v=.int .i64 (n:Int)∧Cu h' c X S l:=by
 refine Call.of_wp (I.free _ rfl) Tryz.func202 rfl rfl (zK 7 rfl (zc rfl (vn I (by omega) J) ?_))
 rintro v h' ⟨rfl,J⟩
 refine zk 5 rfl (zt rfl (af rfl rfl BY) (by simp; omega) ?_)
 refine zc rfl (mK I) ?_
 rintro v h' ⟨rfl,rfl⟩
 refine zk 4 rfl (zo rfl (cJ rfl (IQ (by omega))) ?_)
 exact zk 2 rfl (WP.ret ⟨aa,_,rfl,rfl,J⟩)
theorem IT (hT:W told)(hm:m.length≤1048576)(hc:Cu h c X S (digits 9 m.length++m++l)):
  Call ⟨Tryz.prog,told⟩ 201 [.ptr c 0] h fun v h'=>Cu h' c X (aZ v m::S) l:=by
 rw [bS] at hc
 refine Call.of_wp (hT.free _ rfl) Tryz.func201 rfl rfl (zK 7 rfl (zc rfl (xX hT hm hc) ?_))
 rintro v h ⟨rfl,v,I,s⟩
 have hv:=s.aE (k:=1) rfl I
 have J:=dz hv
 refine zk 7 rfl (zf rfl (l9 _ _) (zl rfl (s.ld (k:=0) rfl bJ rfl) (zo rfl (aU rfl rfl rfl (a_ aG hv)) (zt rfl (af rfl rfl BY) (by simp <;> omega) ?_))))
 refine zc rfl (mK hT) ?_
 rintro r h' ⟨rfl,rfl⟩
 refine zk 2 rfl ?_
 have s0:=s
 have hto:=ik hv (b:=m.length) (by simp)
 have Hq:=dz hto.2.1
 refine WP.drawn [none,none,some (0,2),some (0,2),some (0,2),some (0,2),some (0,2),some (0,2),none,none] rfl (by kernel_rfl) (by kernel_rfl) ?_
 refine zM rfl (aB.any rfl rfl rfl rfl (OpR.uq rfl s rfl rfl rfl rfl (by omega)) ?_)
 intro v2 h s
 have s:=s.ae [1,1,0]
 have um:=dz (s.buf (k:=2) rfl).view
 have s1:=s
 have hto:=ik (s.aE (k:=1) rfl I) (b:=m.length) (by simp)
 refine zM rfl (zN rfl (zF rfl (l9 _ _) (zL rfl (s.ld (k:=0) rfl bJ rfl) (zM rfl (zO rfl (cf (p:=none) (q:=some (.int .i64 (m.length:Int))) (m:=none) (p':=none) (q':=some m.length) (m':=none) rfl rfl rfl rfl rfl (by rw [dm (by omega)]; rfl) rfl (ik (s.aE (k:=1) rfl I) (b:=m.length) (by simp)).1) ?_)))))
 refine aB.any rfl rfl rfl rfl (OpR.ru rfl (s.ae [2,1]) (xw I (b:=m.length) (by simp)) rfl rfl rfl rfl (by rw [ke rfl]; simp only [bT]; omega)) ?_
 intro v3 h s
 have s:=s.ae [2,1,0]
 rw [ke rfl] at s
 have PT:=dz (s.buf (k:=2) rfl).view
 refine zA rfl ?_
 refine aB.nil ⟨⟨aa,aa,fun _ _=>.inr ⟨rfl,⟨_,bz rfl⟩,bq _ rfl⟩,fun _ _=>.inr ⟨rfl,⟨_,oK rfl⟩,bq _ rfl⟩,fun _ _=>.inr ⟨rfl,⟨_,lY rfl (l9 _ _)⟩,bq _ rfl⟩,dW (.inr ⟨rfl,⟨_,bh rfl (s0.ld (k:=0) rfl bJ rfl)⟩,J⟩) (.inr ⟨rfl,⟨_,bh rfl (s1.ld (k:=0) rfl bJ rfl)⟩,J⟩),fun _ _=>.inr ⟨rfl,⟨_,bz rfl⟩,bq _ rfl⟩,dW (.inr ⟨rfl,⟨_,cf (p:=none) (q:=some (.int .i64 (m.length:Int))) (m:=none) (p':=none) (q':=some m.length) (m':=none) rfl rfl rfl rfl rfl (by rw [dm (by omega)]; rfl) rfl (ik (s0.aE (k:=1) rfl I) (b:=m.length) (by simp)).1⟩,Hq⟩) (.inr ⟨rfl,⟨_,cf (p:=none) (q:=some (.int .i64 (m.length:Int))) (m:=none) (p':=none) (q':=some m.length) (m':=none) rfl rfl rfl rfl rfl (by rw [dm (by omega)]; rfl) rfl (ik (s1.aE (k:=1) rfl I) (b:=m.length) (by simp)).1⟩,Hq⟩),aa,aa,aa⟩,?_⟩
 have ku:=eO (s.aE (k:=1) rfl I) (a:=m.length) (by simp)
 have hu:=ku.2.1.cells
 refine zK 5 rfl (zf rfl (l9 _ _) (zl rfl (s.ld (k:=0) rfl bJ rfl) (zm rfl (zo rfl (cf (p:=some (.int .i64 (m.length:Int))) (q:=none) (m:=none) (p':=some m.length) (q':=none) (m':=none) rfl rfl rfl rfl (by rw [dm (by omega)]; rfl) rfl rfl ku.1) ?_))))
 refine zn rfl (zf rfl (l9 _ _) (zS rfl (s.ey (k:=0) rfl gR rfl (by decide) hu.1 hu.2) ?_))
 rintro h s
 refine zk 6 rfl (WP.ret ⟨aa,_,rfl,?_⟩)
 have hr:=rq I (a:=m.length) (by simp)
 rw [sY rfl] at hr
 exact ⟨_,hr,s⟩
end
end Go.Proofs.YtefepnnfphdkpaaGreat.Am
