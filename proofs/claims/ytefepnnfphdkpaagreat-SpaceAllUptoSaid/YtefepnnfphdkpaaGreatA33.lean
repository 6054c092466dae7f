/- SpaceAll: a part of its proof; conditions: its statement's. -/
import Derived.Test.YtefepnnfphdkpaaGreatA32
import Derived.Test.YtefepnnfphdkpaaGreatA24
namespace Go.Proofs.YtefepnnfphdkpaaGreat.Am
open Go
theorem Sat.BF {P:Program}{h:H}{S:List au}{j n:Nat}{v:V}{U:List Bool}{t te:TypeId}(s:Sat h S)(I:getA S j=some (kJ v (jJ U)))(J:U.length=n)(hu:P.underlying t=some (.slice te)): lenV P h t v=some (.int .i64 (n:Int)):=by
 have:=s.u5 (P:=P) I hu
 rwa [nG,J] at this
structure JE (R:List Nat)(Rt:List V): Prop where
 len:Rt.length=16
 st:Rt.all storable=true
 val:∀i,i<16→Rt[i]?=some (.int .i64 (cC R (4*i) 4:Nat))
def Qa : List V:=List.replicate 16 (.int .i64 0)
theorem JE.zero : JE (List.replicate 64 0) Qa:=by
 refine ⟨by decide,by decide,?_⟩
 have:∀i,i<16→cC (List.replicate 64 0) (4*i) 4=0:=by decide +kernel
 intro i hi
 rw [this i hi,Qa,vb,aq hi]; rfl
section
variable {told:cX} {h:H} {S:List au} {X Y:au} {N B n g a p q r bA:Nat} {v w x y rv uv:V} {Rt:List V} {U:List Bool} {b l c R M data L:List Nat} {A:aH→au} {pg:aH→Int→List Nat} {ε:aH}
noncomputable def Sa : Code:=fC [1,1,1,1,1,1,0,1,0,0] ((Tryz.f27.body).getD .skip)
theorem G0 (hT:W told)(hR:n4 told N B rv A pg)(hN:2≤N)(Vp:JE R Rt){p3:Nat}: ∀(m:Nat) (i:Int) (ε:aH) (h:H) (E:List (Nat×V)) (Q:Ex→List (Nat×V)→H→Prop),i+m=17 → -1≤i→EI N B ε→fq n R M (pg ε) →
  Sat h (A ε::pt p3 (.cells 17 (uv::Rt) false)::S)→Has E [(0,rv),(3,.ptr p3 0),(13,.int .i64 i)] →
  (∀ε' E' h',EI N B ε'→Sm N ε ε'→Sat h' (A ε'::pt p3 (.cells 17 (uv::Rt) false)::S)→Q (.exit 0) E' h')→WP ⟨Tryz.prog,told⟩ 112 (.loop Sa) E h Q:=by
 intro m
 induction m with
 | zero =>
  intro i ε h E Q hi h0 J hp s hE hq
  refine WP.loop (WP.has hE (zK 4 rfl (zh rfl (ag rfl rfl Km) (by simp; omega) ?_)))
  exact zk 2 rfl (WP.exit (hq ε _ _ J (Sm.refl _ _) s))
 | succ m ih =>
  intro i ε h E Q hi h0 J hp s hE hq
  obtain ⟨ex,mY⟩:=hp.head
  have next:∀(ε':aH) (h:H) (E:List (Nat×V)),EI N B ε'→Sm N ε ε'→Sat h (A ε'::pt p3 (.cells 17 (uv::Rt) false)::S)→Has E [(0,rv),(3,.ptr p3 0),(13,.int .i64 (i+1))]→WP ⟨Tryz.prog,told⟩ 112 (.loop Sa) E h Q:=fun ε' h E he hs s hE =>
   ih (i+1) ε' h E Q (by omega) (by omega) he (by rw [show pg ε'=pg ε from funext (hR.same hs)]; exact hp) s hE fun mu E2 h2 g1 g2 g3=>hq mu E2 h2 g1 (hs.trans g2) g3
  refine WP.loop (WP.has hE (zK 4 rfl (zt rfl (ag rfl rfl Km) (by simp; omega) ?_)))
  refine zk 4 rfl (WP.block (zK 4 rfl (zc rfl (NG (i:=i) hT hR J (by omega) mY hp.rl h0 (by omega) s) ?_)))
  rintro v h ⟨ε',rfl,I,hs,s⟩
  by_cases V8:i<0
  ·rw [ai (by omega)]
   refine zk 9 rfl (zt rfl (ag rfl rfl aO) (by simp; omega) ?_)
   refine zk 9 rfl (zh rfl (ag rfl rfl aF) (by decide) ?_)
   refine zk 2 rfl (zh rfl (ag rfl rfl aF) (by decide) ?_)
   refine zp rfl (zv (zj rfl (WP.skip (zr rfl (zm rfl (zb rfl (by exact aV (aA (by omega) (by omega))) ?_))))))
   refine za rfl (zv ?_)
   exact next ε' _ _ I hs s ⟨rfl,rfl,rfl,aa⟩
  ·by_cases Gv:15<i
   ·rw [ai (by omega)]
    refine zk 9 rfl (zh rfl (ag rfl rfl aO) (by simp; omega) ?_)
    refine zk 2 rfl (zt rfl (ag rfl rfl gv) (by simp; omega) ?_)
    refine zk 6 rfl (zh rfl (ag rfl rfl aF) (by decide) ?_)
    refine zk 2 rfl (zh rfl (ag rfl rfl aF) (by decide) ?_)
    refine zp rfl (zv (zj rfl (WP.skip (zr rfl (zm rfl (zb rfl (by exact aV (aA (by omega) (by omega))) ?_))))))
    refine za rfl (zv ?_)
    exact next ε' _ _ I hs s ⟨rfl,rfl,rfl,aa⟩
   ·rw [aq (by omega)]
    obtain ⟨k,rfl⟩:∃k:Nat,i=k:=⟨i.toNat,by omega⟩
    have Vq:=Vp.val k (by omega)
    rw [cg]
    have Tp:nth (uv::Rt) (0+1+k)=some (.int .i64 (cC R (4*k) 4:Nat)):=by
     rw [eE,show 0+1+k=k+1 by omega,jT]; exact Vq
    refine zk 9 rfl (zh rfl (ag rfl rfl aO) (by simp) ?_)
    refine zk 2 rfl (zh rfl (ag rfl rfl gv) (by simp; omega) ?_)
    refine zk 6 rfl (zh rfl (ag rfl rfl aF) (by decide) ?_)
    refine zk 3 rfl (zf rfl (Pq _ _) (zo rfl (cI (r:=.ptr p3 (0+1+k)) rfl rfl (by rw [SS,show (decide (0≤(k:Int))&&decide ((k:Int)<((16:Nat):Int)))=true by simp; omega,af]; simp)) ?_))
    refine zl rfl (s.ld (k:=1) rfl eG Tp) (zh rfl (ag rfl rfl aF) (by simp) ?_)
    refine zp rfl (zv (zj rfl (WP.skip (zr rfl (zm rfl (zb rfl (by exact aV (aA (by omega) (by omega))) ?_))))))
    refine za rfl (zv ?_)
    exact next ε' _ _ I hs s ⟨rfl,rfl,rfl,aa⟩
theorem Lq (hT:W told)(hR:n4 told N B rv A pg)(gU:EI N B ε)(hN:2≤N)(hp:fq n R M (pg ε))(I:JE R Rt)(ku:storable uv=true)(hU:U.length=n)(m5:∀i,i<n→U.getD i false=bt M i)(s:Sat h (A ε::kJ uv (jJ U)::S)):
  Call ⟨Tryz.prog,told⟩ 27 [rv,.agg (uv::Rt)] h fun v h'=>v=.bool true∧∃ε',EI N B ε'∧Sm N ε ε'∧Sat h' (A ε'::kJ uv (jJ U)::S):=by
 obtain ⟨ex,mY⟩:=hp.head
 have wu:=hp.n1
 have ow:=hp.n2
 have A8:ji (fun i=>U.getD i false) U.length=ji (bt M) n:=by rw [hU]; exact u6 m5
 have hlen:=vV (f:=bt M) (k:=n)
 have J:(uv::Rt).all storable=true:=by simp only [iQ,ku,I.st,eN]
 have Fj:∀ {ε':aH},Sm N ε ε'→fq n R M (pg ε'):=fun hs=>by rw [show pg _=pg ε from funext (hR.same hs)]; exact hp
 have Sb:∀ {ε':aH},Sm N ε ε'→dA (pg ε' 0) 201 n ex [ey,R]:=fun hs=>by rw [hR.same hs]; exact mY
 refine Call.of_wp (hT.free _ rfl) Tryz.func27 rfl rfl (zg rfl (az.cx s rfl rfl rfl (fB rfl J) ?_))
 intro p3 h s
 dsimp only [V.cells,List.length_cons] at s
 rw [I.len] at s
 have s:Sat h (pt p3 (.cells 17 (uv::Rt) false)::_):=s
 refine zk 5 rfl (zc rfl (Dm hT hR gU hN hp (s.ae [1])) ?_)
 rintro v h ⟨lv,qs,rfl,m4,gX,s⟩
 refine zk 9 rfl (zc rfl (NF hT hR m4 (by omega) (Sb gX) hp.rl (by omega) (by omega) (s.ae [1])) ?_)
 rintro v h ⟨mu,rfl,kI,gS,s⟩
 have gS:=gX.trans gS
 refine zk 9 rfl (zc rfl (Fq hT hR kI hN (Fj gS) s) ?_)
 rintro v h ⟨w8,rfl,sk,n_,s⟩
 have n_:=gS.trans n_
 rw [hp.P_]
 refine zk 9 rfl (zc rfl (C6 hT hR sk (by omega) (Sb n_) hp.rl s) ?_)
 rintro v h ⟨P7,rfl,JA,Ms,s⟩
 have Ms:=n_.trans Ms
 have s:=s.ae [2,2,1,0]
 have Vr:=(s.ny (j:=2) rfl).2.2
 have EX:=(s.To (j:=1) rfl)
 refine zk 8 rfl ?_
 have s0:=s
 refine WP.drawn [ak,ak,ak,some (0,2),ak,ak,ak,ak,ak,ak,ak,ak,ak,ak,some (2,2),ak,ak,ak,ak,ak,ak,ak,ak,ak,ak,ak,some (3,2),some (3,2),some (3,2),some (3,2),ak,ak,ak,ak,ak,ak,ak,ak,ak,ak,ak,ak,ak,ak] rfl (by kernel_rfl) (by kernel_rfl) ?_
 refine zM rfl (aD.mI rfl rfl rfl rfl (ag rfl rfl aF) (rfl) (zM rfl (zM rfl (zL rfl (s.cG (k:=0) rfl F8 Ci) (aD.any rfl rfl rfl rfl (OpR.call rfl rfl rfl rfl (Dp hT J I.len (by omega) (s.ae [1]))) ?_)))))
 intro mv h s
 rw [A8] at s
 have s1:=s.ae [2,1,1,1,0]
 refine aD.any rfl rfl rfl rfl (OpR.call rfl rfl rfl rfl (NQ hT (by omega) (s.ae [3,0]))) ?_
 rintro v h' ⟨rfl,rfl⟩
 have s:=s1
 refine zO rfl (eP rfl rfl) (zO rfl (iB rfl rfl) (zM rfl (zM rfl (aD.mI rfl rfl rfl rfl (ag rfl rfl aF) (rfl) (zO rfl (iB rfl rfl) (zM rfl (zM rfl (zF rfl (mL _ _) (zL rfl (s.ld (k:=0) rfl sP rfl) (zO rfl (aQ rfl rfl rfl (s.BF (j:=1) rfl hU lI)) (aD.any rfl rfl rfl rfl (OpR.call rfl rfl rfl rfl (pN hT (n:=n) (by omega) (by omega))) ?_)))))))))))
 rintro v h' ⟨rfl,rfl⟩
 refine aD.mI rfl rfl rfl rfl (ag rfl rfl aF) (by decide) ?_
 refine zO rfl (iB rfl rfl) (zM rfl (zM rfl (aD.mI rfl rfl rfl rfl (ag rfl rfl aF) (rfl) (zO rfl (iB rfl rfl) (zM rfl (zM rfl (zF rfl (mL _ _) (zL rfl (s.ld (k:=0) rfl sP rfl) (zO rfl (aQ rfl rfl rfl (s.BF (j:=1) rfl hU lI)) (zL rfl (s.cG (k:=0) rfl F8 Ci) (aD.any rfl rfl rfl rfl (OpR.call rfl rfl rfl rfl (Dp hT J I.len (by omega) (s.ae [1]))) ?_)))))))))))
 intro WK h s
 rw [A8] at s
 refine zO rfl (aQ rfl rfl rfl (s.gI (n:=(ji (bt M) n).length) (j:=0) rfl (by rw [dD,cq]) (by decide) cB)) ?_
 have s:=s.ae [2,1,1,1,1,0]
 refine zO rfl (ag rfl rfl (by exact jC (aA (by omega) (by omega)))) ?_
 refine aD.mI rfl rfl rfl rfl (ag rfl rfl aF) (by simp) ?_
 refine zO rfl (iB rfl rfl) (zM rfl (zM rfl (aD.mI rfl rfl rfl rfl (ag rfl rfl aF) (rfl) (zO rfl (iB rfl rfl) (zM rfl (zM rfl (zO rfl (eP rfl rfl) (zO rfl (iB rfl rfl) ?_))))))))
 refine aD.nil ⟨⟨aa,aa,aa,fun _ _=>.inr ⟨rfl,⟨_,bT rfl⟩,Vr⟩,aa,aa,aa,aa,aa,aa,aa,aa,aa,aa,fun _ _=>.inr ⟨rfl,⟨_,bT rfl⟩,bP _ rfl⟩,aa,aa,aa,aa,aa,aa,aa,aa,aa,aa,aa,fun _ _=>.inr ⟨rfl,⟨_,bT rfl⟩,bP _ rfl⟩,fun _ _=>.inr ⟨rfl,⟨_,nq rfl (mL _ _)⟩,bP _ rfl⟩,fh (.inr ⟨rfl,⟨_,bp rfl (s1.ld (k:=0) rfl sP rfl)⟩,EX.2.2⟩) (.inr ⟨rfl,⟨_,bp rfl (s.ld (k:=0) rfl sP rfl)⟩,EX.2.2⟩),fh (.inr ⟨rfl,⟨_,aQ rfl rfl rfl (s1.BF (j:=1) rfl hU lI)⟩,bP _ rfl⟩) (.inr ⟨rfl,⟨_,aQ rfl rfl rfl (s.BF (j:=1) rfl hU lI)⟩,bP _ rfl⟩),aa,aa,aa,aa,aa,aa,aa,aa,aa,aa,aa,aa,aa,aa,aa⟩,?_⟩
 refine zK 7 rfl (WP.block ?_)
 refine G0 (uv:=uv) hT hR hN I 18 (-1) P7 _ _ _ (by decide) (by decide) JA (Fj Ms) (s.ae [3,0]) ⟨rfl,rfl,rfl,aa⟩ (fun ε' E' h' g1 g2 s' => ?_)
 have s:=s'
 exact WP.has (F:=[]) aa (zK 4 rfl (WP.ret ⟨aa,_,rfl,rfl,ε',g1,Ms.trans g2,((((s.ae [0,1]).del 5).del 4).del 3).del 2⟩))
end
theorem Lr {k:Int}{m:Nat}(hm:m<65536): ∃r:Nat,r≤m∧∀ {P:Program} {h:H} {t:TypeId} {x y:Operand},binV P h .and t x y (.int .i64 k) (.int .i64 (m:Int))=some (.int .i64 (r:Int)):=by
 refine ⟨Nat.land ((k%(2^(IntKind.i64).bits:Int)).toNat) m,Nat.and_le_right,fun {P h t x y} => ?_⟩
 have I:(((m:Nat):Int)%(2^(IntKind.i64).bits:Int)).toNat=m:=by simp only [IntKind.bits]; omega
 simp only [binV,ikBeq,af,intV,bitsV,I]
 have hle:Nat.land ((k%(2^(IntKind.i64).bits:Int)).toNat) m≤m:=Nat.and_le_right
 rw [wrap_i64 (n:=Nat.land ((k%(2^(IntKind.i64).bits:Int)).toNat) m) (by omega)]
def tJ (i:Nat): List Nat:=(List.range (i-2)).map (· + 2)
theorem Ls {i:Nat}(h:2≤i): tJ (i+1)=tJ i++[i]:=by
 unfold tJ
 rw [show i+1-2=(i-2)+1 by omega,List.range_succ,List.map_append]
 simp only [bX,List.map_nil]
 rw [show i-2+2=i by omega]
theorem AI {i:Nat}: (tJ i).length=i-2:=by unfold tJ; rw [eM,zu]
theorem AJ {i x:Nat}: x∈tJ i↔2≤x∧x<i:=by
 unfold tJ
 simp only [jW,List.mem_range]
 constructor
 ·rintro ⟨y,I,rfl⟩; omega
 ·intro J; exact ⟨x-2,by omega,by omega⟩
theorem JF (i:Nat): (tJ i).Nodup:=by
 unfold tJ
 exact List.Pairwise.map _ (fun a b h e=>h (by omega)) List.nodup_range
def JG (n:Nat): List Bool:=((List.replicate n false).set 0 true).set 1 true
theorem NR {n:Nat}: (JG n).length=n:=by unfold JG; rw [bI,bI,c8]
theorem NS {n i:Nat}(hi:i<n): (JG n).getD i false=decide (i<2):=by
 unfold JG
 rw [dF]
 by_cases I:i=1
 ·subst I; rw [fG (by rw [bI,c8]; exact hi)]; rfl
 ·rw [eL (by omega)]
  by_cases J:i=0
  ·subst J; rw [fG (by rw [c8]; exact hi)]; rfl
  ·rw [eL (by omega),vb,aq hi,cU (by omega)]; rfl
section
variable {told:cX} {h:H} {S:List au} {X Y:au} {N B n g a p q r bA i0:Nat} {v w x y rv uv hv ov ev:V} {Rt:List V} {U:List Bool} {b l c R M data L oc:List Nat} {ε:aH} {now:List (Int×List Nat)}
theorem JH (hT:W told)(hn:2≤n)(ow:n≤3000)(s:Sat h S): Call ⟨Tryz.prog,told⟩ 28 [.int .i64 (n:Int)] h fun v h'=>∃uv,v=.agg (uv::Qa)∧storable uv=true∧Sat h' (kJ uv (jJ (JG n))::S):=by
 obtain ⟨i1,jI,iq,r9⟩:=I4
 refine Call.of_wp (hT.free _ rfl) Tryz.func28 rfl rfl (zg rfl ?_)
 refine az.cx s rfl rfl rfl (cz Pp) (fun p2 h s => ?_)
 dsimp only [V.cells,List.length_cons,List.length_nil,Nat.reduceAdd] at s
 refine zk 3 rfl ?_
 refine az.cx s rfl rfl rfl (cz Pp) (fun p3 h s => ?_)
 dsimp only [V.cells,List.length_cons,List.length_nil,Nat.reduceAdd] at s
 refine zk 4 rfl ?_
 obtain ⟨uv,h1,e1,s1⟩:=ux (P:=Tryz.prog) s lI jI Uk iq (by omega) rfl (by decide) (by decide) (n:=n) (c:=n) (aE _) (by omega)
 refine az.any rfl rfl rfl (OpR.of (R:=fun v h'=>v=uv∧h'=h1) (sN rfl rfl e1) ⟨rfl,rfl⟩) ?_
 rintro uv h ⟨rfl,rfl⟩
 have s:Sat h (.arr 1 uv (repeatL [V.bool false] n)::_):=s1
 rw [Nx] at s
 have cT:jJ (List.replicate n false)≠[]:=fun e=>by have:=eB List.length e; rw [nG,c8] at this; simp at this; omega
 obtain ⟨id,m,cap,M,rest,rfl,_⟩:=s.Ao cT
 have s:=s.ae [1,1,0]
 dsimp only [bringA,getA,bk] at s
 refine zf rfl (mL _ _) ?_
 refine zS rfl (by exact s.je (k:=0) rfl SR rfl (by decide) rfl rfl) (fun h s => ?_)
 dsimp only [Nat.reduceAdd,List.set,setA] at s
 refine zk 6 rfl (WP.block (WP.loop (zK 5 rfl (zc rfl (pN hT (n:=n) (by omega) (by omega)) ?_))))
 rintro v h' ⟨rfl,rfl⟩
 refine zt rfl (ag rfl rfl aO) (by decide) ?_
 obtain ⟨uw,I,h2,e2,e3,s2⟩:=yT (P:=Tryz.prog) (x:=.bool true) (i:=0) (s.ae [2]) (by rw [nG,c8]; omega) rfl rfl lI rT
 rw [Au] at s2
 refine zk 4 rfl (WP.block (zr rfl (zf rfl (mL _ _) (zl rfl (s.ld (k:=0) rfl sP rfl) (zm rfl (zo rfl (cI (r:=.ptr uw I) rfl rfl e2) (zS rfl (⟨h2,e3,s2⟩) ?_)))))))
 rintro h s
 have s:=s.ae [1,1,0]
 dsimp only [bk,bringA,getA] at s
 refine zv (zr rfl (zm rfl (zb rfl (by exact aV (aA (by omega) (by omega))) ?_)))
 refine za rfl (zv (WP.loop (zw (zg rfl (zk 2 rfl (zc rfl (pN hT (n:=n) (by omega) (by omega)) ?_))))))
 rintro v h' ⟨rfl,rfl⟩
 refine zt rfl (ag rfl rfl aO) (by decide) ?_
 obtain ⟨Db,J,h3,e4,e5,s3⟩:=yT (P:=Tryz.prog) (x:=.bool true) (i:=1) (s.ae [2]) (by rw [nG,bI,c8]; omega) rfl rfl lI rT
 rw [Au] at s3
 refine zv (zi rfl (WP.skip (zw (WP.block (zr rfl (zf rfl (mL _ _) (zl rfl (by exact s.ld (k:=0) rfl sP rfl) ?_)))))))
 refine zm rfl (zo rfl (cI (r:=.ptr Db J) rfl rfl e4) (zS rfl (⟨h3,e5,s3⟩) ?_))
 rintro h s
 have s:=s.ae [1,1,0]
 dsimp only [bk,bringA,getA] at s
 refine zk 3 rfl (zb rfl (by exact aV (aA (by omega) (by omega))) ?_)
 refine za rfl (zv (WP.loop (zw (zg rfl (zk 2 rfl (zc rfl (pN hT (n:=n) (by omega) (by omega)) ?_))))))
 rintro v h' ⟨rfl,rfl⟩
 refine zh rfl (ag rfl rfl aO) (by decide) ?_
 refine zk 2 rfl (WP.exit (zg rfl (zl rfl (s.cG (k:=0) rfl F8 Ci) ?_)))
 refine zS rfl (s.ik (j:=1) rfl Ci rfl rfl) (fun h s => ?_)
 refine zv ?_
 refine WP.ret ⟨aa,_,Ra rfl (s.cG (k:=1) rfl F8 Ci),?_⟩
 have s4:=yS (s.ae [2]) (by rw [nG,bI,bI,c8]; omega)
 exact ⟨_,rfl,rfl,(s4.del 2).del 1⟩
theorem JI (I:WS told)(s:Sat h S): Call ⟨Tryz.prog,told⟩ 20 [] h fun v h'=>v=.bool true∧Sat h' S:=by
 refine Call.of_wp (I.w.free _ rfl) Tryz.func20 rfl rfl (zK 6 rfl (zc rfl (tI (n:=8) (m:=8192) (f:=8) I (by decide) (by decide) (by decide) (by decide) (by decide) (by decide) s) ?_))
 rintro v h ⟨p,a,q,r,ε,rfl,J,hp,hd,s⟩
 refine zk 6 rfl (zh rfl (ag rfl rfl (s8 si)) (rfl) (zk 6 rfl (zc rfl (Bi I.w s) ?_)))
 rintro v h ⟨g,rfl,s⟩
 refine zk 6 rfl (zh rfl (ag rfl rfl (s8 jG)) (rfl) (zk 6 rfl (zc rfl (Dc (lo:=2) I.w (by decide) J (NW.nil 8) hp (by decide) (by rw [yR]; rfl) (fun j hj=>by rw [yR,cK hj]) s) ?_)))
 rintro v h ⟨ε',b_,rfl,_,_,_,_,_,_,s⟩
 refine zk 9 rfl (zt rfl (ag rfl rfl iJ) (by decide) ?_)
 refine zk 2 rfl (zt rfl (ag rfl rfl iJ) (by decide) ?_)
 exact zk 3 rfl (WP.ret ⟨aa,_,rfl,rfl,s.drop⟩)
noncomputable def Vs : Code:=fC [1,1,1,1,1,1,1,1,0,1,0,0] ((Tryz.f4.body).getD .skip)
theorem Lt (hT:W told)(hn:n≤2999): ∀(m i:Nat) (ε:aH) (now:List (Int×List Nat)) (M:List Nat) (hv:V) (h:H) (E:List (Nat×V)) (Q:Ex→List (Nat×V)→H→Prop),i+m=n→2≤i→EI n 3 ε→NW n now→fq n R M (eS now ε)→(∀j,bt M j=decide (j<i))→oa N B ε →
  Sat h (.arr 1 hv (cD (tJ i))::GA g a p q r data bA now ε::S)→Has E [(1,ov),(5,.int .i64 (n:Int)),(6,.ptr a 0),(7,.ptr g 0),(8,hv),(9,.int .i64 (i:Int))] →
  (∀ε' b_ M' ot E' h',EI n 3 ε'→NW n b_→fq n R M' (eS b_ ε')→(∀j,bt M' j=decide (j<n))→oa N B ε'→Has E' [(1,ov),(5,.int .i64 (n:Int)),(6,.ptr a 0),(7,.ptr g 0),(8,ot)] →
   Sat h' (.arr 1 ot (cD (tJ n))::GA g a p q r data bA b_ ε'::S)→Q (.exit 0) E' h')→WP ⟨Tryz.prog,told⟩ 156 (.loop Vs) E h Q:=by
 intro m
 induction m with
 | zero =>
  intro i ε now M hv h E Q hi Sc J hw hp I hd s hE hq
  refine WP.loop (WP.has hE (zK 5 rfl (zh rfl (ag rfl rfl aO) (by simp; omega) ?_)))
  refine zk 2 rfl (WP.exit ?_)
  obtain rfl:i=n:=by omega
  exact hq ε now M hv _ _ J hw hp I hd ⟨rfl,rfl,rfl,rfl,rfl,aa⟩ s
 | succ m ih =>
  intro i ε now M hv h E Q hi Sc J hw hp I hd s hE hq
  have hM:=hp.ml
  refine WP.loop (WP.has hE (zK 5 rfl (zt rfl (ag rfl rfl aO) (by simp; omega) ?_)))
  refine zk 4 rfl (WP.block (zK 3 rfl (zc rfl (Dc (lo:=i) hT (by decide) J hw hp (by omega) (by rw [I,cU (by omega)]) (fun j hj=>by rw [I,cK hj]) (s.ae [1])) ?_)))
  rintro v h ⟨ε',b_,rfl,Ba,hs,nQ,xE,rQ,T6,s⟩
  have s:=s.ae [1,0]
  dsimp only [bk,bringA,getA] at s
  refine zk 10 rfl (zh rfl (ag rfl rfl aF) (rfl) (zk 3 rfl (zh rfl (ag rfl rfl aF) (by simp) ?_)))
  refine zk 7 rfl ?_
  obtain ⟨iv,h1,w,h2,e3,e4,s2⟩:=xb (k:=i) s (by rw [AI]; omega)
  rw [←Ls Sc] at s2
  refine az.any rfl rfl rfl (OpR.of (R:=fun v h'=>v=iv∧h'=h1) (lP rfl e3) ⟨rfl,rfl⟩) ?_
  rintro iv h1 ⟨rfl,rfl⟩
  refine az.any rfl rfl rfl (OpR.of (R:=fun v h'=>v=w∧h'=h2) (kS rfl rfl e4) ⟨rfl,rfl⟩) ?_
  rintro w h2 ⟨rfl,rfl⟩
  refine za rfl (zv (zr rfl (zm rfl (zb rfl (by exact aV (aA (by omega) (by omega))) ?_))))
  refine za rfl (zv ?_)
  exact ih (i+1) ε' b_ (Be M i) _ _ _ Q (by omega) (by omega) Ba nQ xE (fun j=>by
   rw [Mq (by omega),I]
   by_cases hj:j=i
   ·rw [aq hj,cK (by omega)]
   ·rw [ai hj]; exact decide_eq_decide.2 (by omega)) (hd.sm hs) s2 ⟨rfl,rfl,rfl,rfl,rfl,rfl,aa⟩ hq
theorem Bv {L:List Nat}{k x:Nat}(hx:L[k]?=some x)(qz:L.Nodup): (L.take k++L.drop (k+1)).Nodup∧∀y,y∈L.take k++L.drop (k+1)↔y∈L∧y≠x:=by
 have hk:=(List.getElem?_eq_some_iff.1 hx).1
 have e:L=L.take k++x::L.drop (k+1):=by
  have J:=List.getElem_cons_drop hk
  rw [(List.getElem?_eq_some_iff.1 hx).2] at J
  rw [J,q_]
 generalize L.take k=a at e ⊢
 generalize L.drop (k+1)=b at e ⊢
 subst e
 have h1:=List.nodup_append.1 qz
 obtain ⟨J,h3,h4⟩:=h1
 obtain ⟨h5,h6⟩:=List.nodup_cons.1 h3
 refine ⟨List.nodup_append.2 ⟨J,h6,fun u hu w hw=>h4 u hu w (cJ _ hw)⟩,fun y => ?_⟩
 simp only [lV,gn]
 constructor
 ·rintro (I | I)
  ·exact ⟨.inl I,fun e=>h4 y I x c9 e⟩
  ·exact ⟨.inr (.inr I),fun e=>h5 (by rw [←e]; exact I)⟩
 ·rintro ⟨I | rfl | I,cT⟩
  ·exact .inl I
  ·exact absurd rfl cT
  ·exact .inr I
noncomputable def Sd : Code:=fC [1,1,1,1,1,1,1,1,1,1,1,1,0,1,0,0,1,0,0,1,1] ((Tryz.f4.body).getD .skip)
theorem G1 (hT:W told){k z:Nat}(hn:n≤2999)(gU:EI n 3 ε)(hw:NW n now)(hp:fq n R M (eS now ε))(hx:L[k]?=some z)(hz:2≤z∧z<n)(hb:bt M z=true)(hl:L.length≤3000){E:List (Nat×V)}{Q:Ex→List (Nat×V)→H→Prop}
 (s:Sat h (kJ hv (cD L)::GA g a p q r data bA now ε::S))(hE:Has E [(1,ov),(5,.int .i64 (n:Int)),(6,.ptr a 0),(7,.ptr g 0),(8,hv),(16,.int .i64 (i0:Int)),(17,.int .i64 (k:Int))])
 (hq:∀ε' b_ ot E' h',EI n 3 ε'→Sm n ε ε'→NW n b_→fq n R (yN M z) (eS b_ ε')→Has E' [(1,ov),(5,.int .i64 (n:Int)),(6,.ptr a 0),(7,.ptr g 0),(8,ot),(16,.int .i64 (i0:Int))] →
   Sat h' (kJ ot (cD (L.take k++L.drop (k+1)))::GA g a p q r data bA b_ ε'::S)→Q .normal E' h'): WP ⟨Tryz.prog,told⟩ 156 Sd E h Q:=by
 have hk:=(List.getElem?_eq_some_iff.1 hx).1
 have Se:(cD L)[k]?=some (.int .i64 (z:Int)):=by rw [cD,jU,hx]; rfl
 have Qb:z/8<M.length:=by rw [hp.ml]; omega
 obtain ⟨id,off,e1,e2⟩:=s.GY (P:=Tryz.prog) (j:=0) rfl Se cB lD
 refine WP.has hE (zK 6 rfl (zo rfl (cI (r:=.ptr id off) rfl rfl e1) (zl rfl (e2 _ eG) (zc rfl (Dd (i:=(z:Int)) hT (by decide) gU hw hp (s.ae [1])) ?_))))
 rintro v h ⟨qs,V9,m4,gX,xF,s,(⟨I,_⟩ | ⟨_,_,_,rfl,J,_⟩)⟩
 ·exact absurd ⟨by omega,by omega,by rw [cg]; exact hb⟩ I
 rw [cg] at J
 have s:=s.ae [1,0]
 obtain ⟨uw,Tq,e3,e4⟩:=s.GY (P:=Tryz.prog) (j:=0) rfl Se cB lD
 refine zh rfl (ag rfl rfl aF) (rfl) (zk 4 rfl (zo rfl (cI (r:=.ptr uw Tq) rfl rfl e3) (zl rfl (e4 _ eG) (zc rfl (Dd (i:=(z:Int)) hT (by decide) m4 xF J (s.ae [1])) ?_))))
 rintro v h ⟨mu,Li,kI,gS,Jr,s,(⟨_,rfl,rfl⟩ | ⟨_,_,I,_⟩)⟩
 rotate_left
 ·rw [cg,GP Qb,aq rfl] at I; cases I
 have s:=s.ae [1,0]
 refine zh rfl (ag rfl rfl aF) (by decide) ?_
 refine zk 4 rfl ?_
 obtain ⟨v1,v2,w,h',e5,e6,e7,s2⟩:=NO (k:=k) s (by rw [dD]; exact hk) (by rw [dD]; omega)
 have ek:((k:Int)).toNat=k:=cg k
 have Vt:((k:Int)+1).toNat=k+1:=by omega
 refine WP.drawn [ak,ak,ak,ak,ak,ak,ak,ak,ak,ak] rfl (by kernel_rfl) (by kernel_rfl) ?_
 refine zM rfl (zM rfl (zM rfl (zO rfl (eD (p:=none) (q:=some (.int .i64 (k:Int))) (m:=some (.int .i64 (k:Int))) (p':=none) (q':=some k) (m':=some k) rfl rfl rfl rfl rfl (by rw [dZ (by omega),ek]) (by rw [dZ (by omega),ek]) e5) ?_)))
 refine zM rfl (zM rfl (zO rfl (ag rfl rfl (by exact aV (aA (by omega) (by omega)))) ?_))
 refine zO rfl (eD (p:=some (.int .i64 ((k:Int)+1))) (q:=none) (m:=none) (p':=some (k+1)) (q':=none) (m':=none) rfl rfl rfl rfl (by rw [dZ (by omega),Vt]) rfl rfl e6) ?_
 refine aD.any rfl rfl rfl rfl (OpR.of (R:=fun v Vu=>v=w∧Vu=h') (kS rfl rfl e7) ⟨rfl,rfl⟩) ?_
 rintro w h' ⟨rfl,rfl⟩
 refine zA rfl ?_
 refine aD.nil ⟨⟨aa,aa,aa,aa,aa,aa,aa,aa,aa,aa,aa⟩,?_⟩
 have e8:(cD L).take k++(cD L).drop (k+1)=cD (L.take k++L.drop (k+1)):=by simp [cD,lX,lY]
 rw [e8] at s2
 exact hq mu Li _ _ _ kI (gX.trans gS) Jr (by rw [g9 gS]; exact J) ⟨rfl,rfl,rfl,rfl,rfl,rfl,aa⟩ s2
noncomputable def Vv : Code:=fC [1,1,1,1,1,1,1,1,1,1,1,1,0,1,0,0] ((Tryz.f4.body).getD .skip)
theorem JJ (hT:W told)(hn:n≤2999): ∀(m i:Nat) (L:List Nat) (ε:aH) (now:List (Int×List Nat)) (M:List Nat) (hv:V) (h:H) (E:List (Nat×V)) (Q:Ex→List (Nat×V)→H→Prop),L.length=m→i+m≤n→L.Nodup→(∀x∈L,2≤x∧x<n)→EI n 3 ε→NW n now→fq n R M (eS now ε)→(∀j,bt M j=(decide (j<2)||decide (j∈L)))→oa N B ε →
  Sat h (kJ hv (cD L)::GA g a p q r data bA now ε::.cr ov oc::S)→Has E [(1,ov),(5,.int .i64 (n:Int)),(6,.ptr a 0),(7,.ptr g 0),(8,hv),(16,.int .i64 (i:Int))] →
  (∀ε' b_ J E' h',EI n 3 ε'→NW n b_→fq n R J (eS b_ ε')→(∀j,bt J j=decide (j<2))→oa N B ε'→Has E' [(5,.int .i64 (n:Int)),(6,.ptr a 0),(7,.ptr g 0)] →
   Sat h' (GA g a p q r data bA b_ ε'::S)→Q (.exit 2) E' h')→WP ⟨Tryz.prog,told⟩ 156 (.loop Vv) E h Q:=by
 intro m
 induction m with
 | zero =>
  intro i L ε now M hv h E Q hl hi qz CQ gU hw hp m5 hd s hE hq
  have hlen:=s.u5 (P:=Tryz.prog) (j:=0) rfl cB
  rw [dD,hl] at hlen
  refine WP.loop (WP.has hE (zK 4 rfl (zo rfl (aQ rfl rfl rfl hlen) (zh rfl (ag rfl rfl gv) (by decide) ?_))))
  refine zk 2 rfl (WP.exit ?_)
  have hL:L=[]:=js hl
  subst hL
  exact hq ε now M _ _ gU hw hp (fun j=>by rw [m5]; simp) hd ⟨rfl,rfl,rfl,aa⟩ ((s.ae [1]).del 2 |>.del 1)
 | succ m ih =>
  intro i L ε now M hv h E Q hl hi qz CQ gU hw hp m5 hd s hE hq
  have hlen:=s.u5 (P:=Tryz.prog) (j:=0) rfl cB
  rw [dD] at hlen
  have tC:=s.aK (k:=2) rfl (d_ _ _)
  -- behind one round
  have next:∀(k:Nat) (h:H) (E:List (Nat×V)) {Q':Ex→List (Nat×V)→H→Prop},k<L.length→Sat h (kJ hv (cD L)::GA g a p q r data bA now ε::.cr ov oc::S)→Has E [(1,ov),(5,.int .i64 (n:Int)),(6,.ptr a 0),(7,.ptr g 0),(8,hv),(16,.int .i64 (i:Int)),(17,.int .i64 (k:Int))] →
    (∀ε' b_ I E' h' J L',L'.length=m→L'.Nodup→(∀x∈L',2≤x∧x<n)→EI n 3 ε'→NW n b_→fq n R J (eS b_ ε')→(∀j,bt J j=(decide (j<2)||decide (j∈L')))→oa N B ε'→Has E' [(1,ov),(5,.int .i64 (n:Int)),(6,.ptr a 0),(7,.ptr g 0),(8,I),(16,.int .i64 (i:Int))] →
     Sat h' (kJ I (cD L')::GA g a p q r data bA b_ ε'::.cr ov oc::S)→Q' .normal E' h')→WP ⟨Tryz.prog,told⟩ 156 Sd E h Q':=fun k h E Q' hk s hE mC=>by
   have hx:L[k]?=some (L[k]'hk):=aN _
   generalize (L[k]'hk)=z at hx
   have Sf:=aU hx
   have hz:=CQ z Sf
   obtain ⟨t1,t2⟩:=Bv hx qz
   have Qb:z/8<M.length:=by rw [hp.ml]; omega
   exact G1 hT hn gU hw hp hx hz (by rw [m5,cK Sf,Bool.or_true]) (by omega) s hE fun ε' b_ I E' h' g1 g2 g3 g4 g5 g6 =>
    mC ε' b_ I E' h' (yN M z) (L.take k++L.drop (k+1)) (by rw [bK,gM,oZ]; omega) t1 (fun y hy=>CQ y ((t2 y).1 hy).1) g1 g3 g4 (fun j=>by
     rw [GP Qb,m5]
     by_cases hj:j=z
     ·subst hj
      rw [aq rfl,cU (by omega:¬j<2),cU (fun q=>((t2 j).1 q).2 rfl)]; rfl
     ·rw [ai hj,show decide (j∈L.take k++L.drop (k+1))=decide (j∈L) from decide_eq_decide.2 ⟨fun q=>((t2 j).1 q).1,fun q=>(t2 j).2 ⟨q,hj⟩⟩]) (hd.sm g2) g5 g6
  refine WP.loop (WP.has hE (zK 4 rfl (zo rfl (aQ rfl rfl rfl hlen) (zt rfl (ag rfl rfl gv) (by simp; omega) ?_))))
  refine zk 4 rfl (WP.block (zK 8 rfl (zo rfl (aQ rfl rfl rfl (bw aM tC)) ?_)))
  by_cases ho:0<oc.length
  ·skip
   refine zt rfl (ag rfl rfl gv) (by simp; omega) ?_
   have hb:oc[i%oc.length]?=some (oc[i%oc.length]'(ni _ ho)):=aN _
   generalize (oc[i%oc.length]'(ni _ ho))=z at hb
   have hz:z<256:=tC.1 z (aU hb)
   obtain ⟨id,off,e1,e2⟩:=c7 tC hb
   refine zk 6 rfl (zo rfl (aQ rfl rfl rfl (bw aM tC)) (zb rfl (wS (a:=i) (b:=oc.length) ho) (zo rfl (cI (r:=.ptr id off) rfl rfl e1) (zl rfl e2 (zo rfl (cM rfl (by exact jf Tryz.underlying5 bG (aA (by omega) (by omega)))) ?_)))))
   refine zm rfl (zo rfl (aQ rfl rfl rfl hlen) (zb rfl (wS (a:=z) (b:=L.length) (by omega)) ?_))
   refine zk 2 rfl ?_
   refine next (z%L.length) _ _ (ni _ (by omega)) s ⟨rfl,rfl,rfl,rfl,rfl,rfl,rfl,aa⟩ (fun ε' b_ I E' h' J L' a1 a2 a3 a4 a5 a6 a7 a8 a9 s' => ?_)
   have s:=s'
   refine WP.has a9 (zK 2 rfl (zb rfl (by exact aV (aA (by omega) (by omega))) ?_))
   refine za rfl (zv ?_)
   exact ih (i+1) L' ε' b_ J I _ _ Q a1 (by omega) a2 a3 a4 a5 a6 a7 a8 s ⟨rfl,rfl,rfl,rfl,rfl,rfl,aa⟩ hq
  ·skip
   refine zh rfl (ag rfl rfl gv) (by have:oc.length=0:=(by omega); rw [this]; decide) ?_
   refine zk 3 rfl ?_
   refine next 0 _ _ (by omega) s ⟨rfl,rfl,rfl,rfl,rfl,rfl,rfl,aa⟩ (fun ε' b_ I E' h' J L' a1 a2 a3 a4 a5 a6 a7 a8 a9 s' => ?_)
   have s:=s'
   refine WP.has a9 (zK 2 rfl (zb rfl (by exact aV (aA (by omega) (by omega))) ?_))
   refine za rfl (zv ?_)
   exact ih (i+1) L' ε' b_ J I _ _ Q a1 (by omega) a2 a3 a4 a5 a6 a7 a8 s ⟨rfl,rfl,rfl,rfl,rfl,rfl,aa⟩ hq
end
section
variable {told:cX} {h:H} {S:List au} {ov:V} {oc:List Nat} {n0:Int}
theorem NT {n:Nat}{f:Nat→Bool}(h:∀j,j<n→f j=true): (ji f n).length=n:=by
 rw [u6 (g:=fun _=>true) h]
 unfold ji
 rw [List.filter_eq_self.2 (fun _ _=>rfl),zu]
theorem NU {n:Nat}{f:Nat→Bool}(I:2≤n)(h:∀j,f j=decide (j<2)): (ji f n).length=2:=by
 rw [u6 (g:=fun j=>decide (j<2)) (fun j _=>h j),show n=2+(n-2) by omega,Dn (fun j J=>decide_eq_false (by omega))]
 rfl
theorem NV (hT:WS told)(s:Sat h (.cr ov oc::S)): Call ⟨Tryz.prog,told⟩ 4 [.int .i64 n0,ov] h fun v h'=>v=.bool true:=by
 have I:=hT.w
 obtain ⟨k,hk,Vw⟩:=Lr (k:=n0) (m:=127) (by decide)
 refine Call.of_wp (I.free _ rfl) Tryz.func4 rfl rfl (zK 7 rfl (zc rfl (JI hT s) ?_))
 rintro v h ⟨rfl,s⟩
 refine zo rfl (eP rfl rfl) (zk 6 rfl (zo rfl (ag (r:=.int .i64 (k:Int)) rfl rfl Vw) ?_))
 obtain ⟨n,hn⟩:∃n,n=6+k:=⟨_,rfl⟩
 have Vx:(n:Int)=6+(k:Int):=by omega
 refine zo rfl (ag (r:=.int .i64 (n:Int)) rfl rfl (by rw [Vx]; exact aV (aA (by omega) (by omega)))) ?_
 refine zk 5 rfl (zc rfl (tI (n:=n) (m:=262144) (f:=12) hT (by omega) (by omega) (by decide) (by omega) (by decide) (by decide) s) ?_)
 rintro v h ⟨p,a,q,r,ε,rfl,gU,hp,hd,s⟩
 refine zk 6 rfl (zh rfl (ag rfl rfl (s8 si)) (rfl) (zk 6 rfl (zc rfl (Bi I s) ?_)))
 rintro v h ⟨g,rfl,s⟩
 refine zk 6 rfl (zh rfl (ag rfl rfl (s8 jG)) (rfl) (zk 11 rfl (zc rfl (pN I (n:=n) (by omega) (by omega)) ?_)))
 rintro v h' ⟨rfl,rfl⟩
 have s:=s.mN (k:=1)
 refine zk 2 rfl (WP.block ?_)
 refine Lt I (by omega) (n-2) 2 ε [] uZ _ _ _ _ (by omega) (aE _) gU (NW.nil n) hp (fun j=>yR) hd s ⟨rfl,rfl,rfl,rfl,rfl,rfl,aa⟩ (fun qs J M1 hv E' h' m4 xF qM Lu Vy hE s' => ?_)
 have s:=s'
 refine WP.has hE (zK 3 rfl (zc rfl (GS I (by decide) m4 xF qM (fun j hj=>by rw [Lu,cK hj]) (s.ae [1])) ?_))
 rintro v h ⟨mu,rfl,kI,gS,s⟩
 have CT:fq n (List.replicate 64 0) M1 (eS J mu):=by rw [g9 gS]; exact qM
 have e0:(n:Int)-(onesL M1:Nat)=0:=by rw [qM.P_,NT fun j hj=>by rw [Lu,cK hj]]; omega
 refine zk 9 rfl (zo rfl (nJ rfl (lC jG rfl)) (zc rfl (Fq I (w6 I (by decide) xF) kI (by omega) CT s) ?_))
 rintro v h ⟨w8,rfl,sk,n_,s⟩
 rw [e0]
 have Js:fq n (List.replicate 64 0) M1 (eS J w8):=by rw [g9 n_]; exact CT
 have Vz:=(Vy.sm gS).sm n_
 refine zk 10 rfl (zh rfl (ag rfl rfl aF) (by decide) ?_)
 refine zk 2 rfl (zh rfl (ag rfl rfl aF) (by decide) ?_)
 refine zk 3 rfl (zh rfl (ag rfl rfl aF) (by decide) ?_)
 refine zk 3 rfl (zh rfl (ag rfl rfl aF) (by decide) ?_)
 refine zk 9 rfl (WP.block ?_)
 have s:=yS (s.ae [1]) (by rw [dD,AI]; omega)
 refine JJ I (by omega) (n-2) 0 (tJ n) w8 J M1 hv _ _ _ AI (by omega) (JF n) (fun x hx=>AJ.1 hx) sk xF Js (fun j => ?_) Vz s ⟨rfl,rfl,rfl,rfl,rfl,rfl,aa⟩ (fun P7 Tr M4 E' h' JA Qc Sg Qd P8 hE s' => ?_)
 ·rw [Lu]
  by_cases h1:j<2
  ·rw [cK h1,cK (by omega)]; rfl
  ·rw [cU h1,vk]; exact decide_eq_decide.2 ⟨fun q=>AJ.2 ⟨by omega,q⟩,fun q=>(AJ.1 q).2⟩
 have s:=s'
 refine WP.has hE (zK 3 rfl (zo rfl (nJ rfl (lC jG rfl)) (zc rfl (Dm I (w6 I (by decide) Qc) JA (by omega) Sg s) ?_)))
 rintro v h ⟨w,V_,rfl,VA,Sh,s⟩
 have VB:fq n (List.replicate 64 0) M4 (eS Tr V_):=by rw [g9 Sh]; exact Sg
 have VC:=P8.sm Sh
 refine zk 9 rfl (zo rfl (cW rfl (yQ (kd:=3))) (zc rfl (Dj (kd:=3) I (by decide) VA Qc (by omega) (by decide) (by decide) VC (by omega) (s.ae [1])) ?_))
 rintro v h ⟨aL,WV,rfl,VD,Ts,WL,s⟩
 have VE:=VB.done Qc Ts
 have s:=s.ae [1,1]
 refine zk 8 rfl (zt rfl (ag rfl rfl iJ) (rfl) (zk 2 rfl (zo rfl (aQ rfl rfl rfl (s.gI (n:=2) (j:=1) rfl (by rw [dD,NU (by omega) Qd]) (by decide) cB)) ?_)))
 refine zm rfl (zc rfl (pN I (n:=n) (by omega) (by omega)) ?_)
 rintro v h' ⟨rfl,rfl⟩
 refine zt rfl (ag rfl rfl iJ) (by decide) ?_
 refine zk 3 rfl (zt rfl (ag rfl rfl iJ) (rfl) (zk 3 rfl (zo rfl (nJ rfl (lC si rfl)) (zm rfl (zc rfl (JH (n:=n) I (by omega) (by omega) s) ?_)))))
 rintro v h ⟨uv,rfl,ku,s⟩
 refine zc rfl (Lq I (PY I (by decide)) VD (by omega) VE JE.zero ku NR (fun i hi=>by rw [NS hi,Qd]) (s.ae [1,0])) ?_
 rintro v h ⟨rfl,_⟩
 refine zk 3 rfl (WP.ret ⟨aa,_,rfl,?_⟩)
 rfl
end
def Dq (c:Ctx): Prop:=∀id,id<c.N→c.X id=true
noncomputable def Ctx.fix (c:Ctx)(w:World)(b off:Nat): Ctx:=⟨fun i=>if i=c.N then (b,off) else c.ρ i,fun x=>if x=b then rowSize w b else c.Z x,c.N+1,fun i=>if i=c.N then true else c.X i⟩
theorem Rel.fix {c:Ctx}{σ:H}{w:World}(h:Rel c σ w)(hX:Dq c){b off:Nat}{cs:List V}{C:Array Value}{e:TypeId}{fz:Nat×Nat}(hb:w.heap[b]?=some (.cells C e fz))(hl:off+cs.length≤C.size)
 (hc:∀j v,cs[j]?=some v→C[off+j]?=some (conc c v))(gP:∀v∈cs,wf c v∧storable v=true):
  Rel (c.fix w b off) (σ.new (.cells cs.length cs true)) w∧Dq (c.fix w b off)∧Ext c (c.fix w b off)∧(c.fix w b off).ρ σ.next=(b,off)∧σ.next<(c.fix w b off).N:=by
 have hold:∀i,i<c.N→(c.fix w b off).ρ i=c.ρ i:=fun i hi=>by simp [Ctx.fix,gp hi]
 have xB:∀i,i<c.N→(c.fix w b off).X i=c.X i:=fun i hi=>by simp [Ctx.fix,gp hi]
 have I:(c.fix w b off).ρ c.N=(b,off):=by simp [Ctx.fix]
 have VF:(c.fix w b off).X c.N=true:=by simp [Ctx.fix]
 have hN:(c.fix w b off).N=c.N+1:=rfl
 have br:b<w.heap.size:=(Array.getElem?_eq_some_iff.1 hb).1
 have lN:Dq (c.fix w b off):=fun i hi=>by
  by_cases J:i=c.N
  ·rw [J]; exact VF
  ·rw [xB i (by rw [hN] at hi; omega)]; exact hX i (by rw [hN] at hi; omega)
 have ex:Ext c (c.fix w b off):=⟨by rw [hN]; omega,hold,fun i hi=>by
  show (if (c.ρ i).1=b then rowSize w b else c.Z (c.ρ i).1)=_
  split
  ·rename_i he; rw [h.zz i hi,he]
  ·rfl,xB⟩
 have key:∀i o,(σ.new (.cells cs.length cs true)).tr.get i=some o→(i=c.N∧o=.cells cs.length cs true)∨(i<c.N∧σ.tr.get i=some o):=by
  intro i o hi
  rw [fJ,h.next] at hi
  by_cases J:i=c.N
  ·simp [J] at hi; exact .inl ⟨J,hi.symm⟩
  ·simp [J] at hi; exact .inr ⟨h.live i o hi,hi⟩
 refine ⟨⟨by simp [H.new,h.next,hN],fun i o hi => ?_,fun i hi => ?_,fun i hi => ?_,fun i j o o' hi hj he => ?_,fun i o hi => ?_,fun i l7 ki hi hx => ?_,fun i o hi hx => ?_⟩,lN,ex,by rw [h.next]; exact I,by rw [h.next,hN]; omega⟩
 ·rw [hN]; rcases key i o hi with ⟨J,_⟩ | ⟨J,_⟩ <;> omega
 ·rw [hN] at hi
  by_cases J:i=c.N
  ·rw [J,I]; exact br
  ·rw [hold i (by omega)]; exact h.jz i (by omega)
 ·rw [hN] at hi
  by_cases J:i=c.N
  ·rw [J,I]; show (if b=b then rowSize w b else c.Z b)=_; rw [aq rfl]
  ·rw [hold i (by omega)]
   show (if (c.ρ i).1=b then rowSize w b else c.Z (c.ρ i).1)=_
   split
   ·rename_i he; rw [he]
   ·exact h.zz i (by omega)
 ·have li:i<c.N+1:=by rcases key i o hi with ⟨J,_⟩ | ⟨J,_⟩ <;> omega
  have lj:j<c.N+1:=by rcases key j o' hj with ⟨J,_⟩ | ⟨J,_⟩ <;> omega
  exact .inr ⟨lN i (by rw [hN]; exact li),lN j (by rw [hN]; exact lj)⟩
 ·rcases key i o hi with ⟨rfl,rfl⟩ | ⟨a1,a2⟩
  ·refine ⟨rfl,fun v hv=>⟨(bW ex v (gP v hv).1).2,(gP v hv).2⟩,C,e,fz,by rw [I]; exact hb,by rw [I]; exact hl,fun j v hj => ?_,aa⟩
   rw [I,(bW ex v (gP v (aU hj)).1).1]
   exact hc j v hj
  ·exact (h.obj i o a2).later ex a1 rfl
 ·have li:i<c.N+1:=by rcases key i _ hi with ⟨J,_⟩ | ⟨J,_⟩ <;> omega
  rw [lN i (by rw [hN]; exact li)] at hx; cases hx
 ·rcases key i o hi with ⟨_,rfl⟩ | ⟨a1,a2⟩
  ·exact ⟨_,_,rfl⟩
  ·rw [xB i a1] at hx; exact h.fx i o a2 hx
theorem D_ {c c':Ctx}{w w':World}(hX:Dq c)(h:b6 c w c' w'): w.keptBut w' (fun _=>False)∧w.heap.size≤w'.heap.size∧∀b,b<w.heap.size→w'.heap[b]?=w.heap[b]?:=by
 have J:∀b,b<w.heap.size→w'.heap[b]?=w.heap[b]?:=fun b hb=>h.lp b hb fun id I _=>hX id I
 refine ⟨⟨h.sys.1,h.sys.2,fun i hi => ?_⟩,h.size,J⟩
 rw [J i hi]
 split <;> simp_all
end Go.Proofs.YtefepnnfphdkpaaGreat.Am
