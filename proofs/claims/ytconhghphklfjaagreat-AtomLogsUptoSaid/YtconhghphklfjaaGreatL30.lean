/- After a crash the log has the records of the groups that are there and no others, with their numbers and data; the conditions are those of the given statement, for arguments that a machine can hold. Part 30 of 54. -/
import Derived.Test.YtconhghphklfjaaGreatL29
namespace Go.Proofs.YtconhghphklfjaaGreat.Am
open Go
def jd (c:bV): List Nat:=digits 9 c.aO.toNat++digits 9 c.pos.toNat++[if c.whole then 1 else 0]++(digits 9 c.b.length++c.b)
def cy (kd:Int)(tx pv nx:Nat)(data:List Nat)(aA:List bV): List Nat :=
 [kd.toNat]++digits 9 tx++digits 9 pv++digits 9 nx++(digits 9 data.length++data)++digits 9 aA.length++aA.flatMap jd
section
variable {told:Nat→Option (List V→H→Option (V×H))} {h:H} {S:List ah} {X:ah} {k q p:Nat} {v w:V} {l m:List Nat}
theorem kJ (I:W told){n:Nat}(s:Sat h (a_ v l::S))(hn:n<18446744073709551616)(hl:l.length≤140737488355000):
  Call ⟨Tryz.prog,told⟩ 135 [v,.int .u64 (n:Int)] h fun r h'=>Sat h' (a_ r (l++digits 9 n)::S) :=
 (xM I.Kf (k:=9) s.wf (s.buf (k:=0) rfl) (by omega) (by omega) (by omega)).mono fun _ _ ⟨J,U,h3⟩=>s.sH U J h3
theorem wY (U:W told)(s:Sat h (a_ v l::X::S))(I:bU X (bZ w m))(hl:l.length+m.length≤140737488355000):
  Call ⟨Tryz.prog,told⟩ 136 [v,w] h fun r h'=>Sat h' (a_ r (l++(digits 9 m.length++m))::X::S) :=
 (Ld U.Kf (k:=9) s.wf (s.buf (k:=0) rfl) (s.ax (k:=1) rfl I) (s.Nr I) (by omega) (by omega) (by omega)).mono fun _ _ ⟨J,h2,h3⟩=>by
  rw [List.append_assoc] at J
  exact s.sH h2 J h3
noncomputable def Qr : Code:=cn [1,1,1,1,0,1,0,0] ((Tryz.f121.body).getD .skip)
theorem Gp (hT:W told){p1:Nat}{ch:V}{cs:List V}{aA:List bV}(mM:∀c∈aA,c.Ok)(J:rV aA): ∀(j i:Nat) (sv:V) (l:List Nat) (h:H) (E:List (Nat×V)) (Q:Ex→List (Nat×V)→H→Prop),i+j=aA.length →
  l.length+((aA.drop i).flatMap jd).length≤140737488355000 →
  Sat h (a_ sv l::.arr 4 ch cs::bP cs aA::S)→Has E [(1,.ptr p1 0),(3,sv),(37,ch),(38,.int .i64 aA.length),(39,.int .i64 i)] →
  (∀E' h' I,look E' 3=some I→Sat h' (a_ I (l++(aA.drop i).flatMap jd)::.arr 4 ch cs::bP cs aA::S)→Q (.exit 2) E' h')→WP ⟨Tryz.prog,told⟩ 63 (.loop Qr) E h Q:=by
 intro j
 induction j with
 | zero =>
  intro i sv l h E Q hi hlen s hE hx
  have hm:=J.1
  refine WP.loop (WP.has hE (zg rfl (ae.aE rfl rfl rfl (af rfl rfl aX) (by simp; omega) ?_)))
  refine zv (zw (zj rfl (WP.exit (hx _ _ sv rfl ?_))))
  rw [List.drop_eq_nil_of_le (by omega)]
  simpa using s
 | succ j ih =>
  intro i sv l h E Q hi hlen s hE hx
  have hm:=J.1
  have hc:aA[i]?=some (aA[i]'(by omega)):=List.getElem?_eq_getElem _
  generalize (aA[i]'(by omega))=c at hc
  have Gl:=List.mem_of_getElem? hc
  have RV:=mM c Gl
  have Qq:=J.2.1 c Gl
  have ji:aA.drop i=c::aA.drop (i+1):=by
   obtain ⟨h1,rfl⟩:=List.getElem?_eq_some_iff.1 hc
   exact List.drop_eq_getElem_cons h1
  rw [ji,List.flatMap_cons] at hlen hx
  obtain ⟨pg,ps,wh,bb⟩:=c
  obtain ⟨q1,q2,q3,q4,_⟩:=RV
  dsimp only at q1 q2 q3 q4 Qq
  obtain ⟨pg,rfl⟩:∃n:Nat,pg=n:=⟨pg.toNat,by omega⟩
  obtain ⟨ps,rfl⟩:∃n:Nat,ps=n:=⟨ps.toNat,by omega⟩
  have U:jd ⟨pg,ps,wh,bb⟩=digits 9 pg++digits 9 ps++[if wh then 1 else 0]++(digits 9 bb.length++bb):=by simp [jd]
  have Cw:(jd ⟨pg,ps,wh,bb⟩).length=(digits 9 pg).length+(digits 9 ps).length+1+(digits 9 bb.length).length+bb.length:=by rw [U]; simp; omega
  rw [List.length_append,Cw] at hlen
  obtain ⟨id,off,u,e1,e2,u1,u2,u3,s⟩:=As (s.aa [1,1]) hc
  dsimp only at e2
  have s:=s.aa [3,0,0,0]
  dsimp only [ai,bringA,getA] at s
  refine WP.loop (WP.has hE (zg rfl (ae.aR rfl rfl rfl (af rfl rfl aX) (by simp; omega) ?_)))
  refine zv (zw (zi rfl (WP.skip (zw (WP.block (zg rfl (zo rfl (cH (r:=.ptr id off) rfl rfl e1) (zl rfl e2 ?_))))))))
  refine ae.bO s rfl rfl rfl (bK lS) (fun p7 h s => ?_)
  dsimp only [V.cells,List.length_cons,List.length_nil,Nat.reduceAdd] at s
  refine ae.bn rfl rfl rfl rfl rfl (s.eN (j:=0) rfl mH rfl (by simp only [List.all_cons,List.all_nil,u2]; rfl)) ?_
  intro h s
  dsimp only [setA] at s
  refine zv (zw ?_)
  have s:=s.aa [1,0]
  dsimp only [bringA,getA,ai] at s
  have s0:=s
  refine WP.drawn [none,none,none,none,none,some (0,2),some (0,2),some (0,2),none,none] rfl (by kernel_rfl) (by kernel_rfl) ?_
  refine zM rfl (zF rfl (k_ _ _) (zL rfl (by exact s.ld (k:=1) rfl cq rfl) ?_))
  refine au.op rfl rfl rfl (by simp only [isEff,Tryz.underlying35]) (bz rfl (by exact gC Tryz.underlying3 Tryz.underlying35 (dM (by omega) (by omega)))) ?_
  refine au.any rfl rfl rfl rfl (OpR.call rfl rfl rfl rfl (kJ hT s (by omega) (by omega))) ?_
  intro v1 h s
  have s1:=s
  refine zF rfl (mu _ _) (zL rfl (by exact s.ld (k:=1) rfl cq rfl) ?_)
  refine au.op rfl rfl rfl (by simp only [isEff,Tryz.underlying35]) (bz rfl (by exact gC Tryz.underlying3 Tryz.underlying35 (dM (by omega) (by omega)))) ?_
  refine au.any rfl rfl rfl rfl (OpR.call rfl rfl rfl rfl (kJ hT s (by omega) (by simp; omega))) ?_
  intro v2 h s
  refine zA rfl ?_
  refine au.nil ⟨⟨trivial,trivial,trivial,trivial,trivial,fun _ _=>.inr ⟨rfl,⟨_,iO rfl (mu _ _)⟩,aU _ rfl⟩,cR (.inr ⟨rfl,⟨_,aI rfl (by exact s0.ld (k:=1) rfl cq rfl)⟩,aU _ rfl⟩) (.inr ⟨rfl,⟨_,aI rfl (by exact s1.ld (k:=1) rfl cq rfl)⟩,aU _ rfl⟩),fun _ _=>.inr ⟨rfl,⟨_,bz rfl (by exact gC Tryz.underlying3 Tryz.underlying35 (dM (by omega) (by omega)))⟩,aU _ rfl⟩,trivial,trivial,trivial⟩,?_⟩
  have Nx:∀(h:H) (E:List (Nat×V)) (I:V),Sat h (a_ I (l++jd ⟨pg,ps,wh,bb⟩)::.arr 4 ch cs::bP cs aA::S)→Has E [(1,.ptr p1 0),(3,I),(37,ch),(38,.int .i64 aA.length),(39,.int .i64 ((i:Int)+1))]→WP ⟨Tryz.prog,told⟩ 63 (.loop Qr) E h Q:=by
   intro h E I s hE
   refine ih (i+1) I _ h E Q (by omega) (by rw [List.length_append,Cw]; omega) s hE (fun E' h' TA qH s'=>hx E' h' TA qH ?_)
   rw [List.append_assoc] at s'
   exact s'
  have V5:=ey 9 pg
  have V6:=ey 9 ps
  refine zg rfl (za rfl (zv (zw (zg rfl (zf rfl (rK _ _) ?_)))))
  have EY:wh=false∨wh=true:=by cases wh <;> simp
  rcases EY with hw | hw
  ·skip
   refine ae.aE rfl rfl rfl (aI rfl (by exact s.ld (k:=1) rfl gU rfl)) (hw) ?_
   refine zv (zj rfl (WP.skip ?_))
   have s0:=s
   have vA:=cg (s.buf (k:=0) rfl).view
   refine WP.drawn [some (0,2),none,none,none,some (0,3),some (0,3),none,none] rfl (by kernel_rfl) (by kernel_rfl) ?_
   refine zM rfl (zM rfl (au.any rfl rfl rfl rfl (OpR.DV (n:=0) rfl s rfl rfl rfl (by decide)) ?_))
   intro v3 h s
   have s:=s.aa [1,1,0]
   dsimp only [bringA,getA,ai] at s
   have s1:=s
   refine au.any rfl rfl rfl rfl (OpR.mI rfl (s.aa [0,1]) (bk _ _) rfl rfl rfl rfl (by simp; omega)) ?_
   intro v4 h s
   have s:=s.del 1
   dsimp only [ai,bringA] at s
   have s2:=s
   refine zF rfl (jY _ _) (zL rfl (by exact s.ld (k:=1) rfl bg rfl) ?_)
   refine au.any rfl rfl rfl rfl (OpR.call rfl rfl rfl rfl (wY hT (s.aa [0,1]) (bN _ _) (by simp; omega))) ?_
   intro v5 h s
   dsimp only [ai,bringA] at s
   refine zA rfl ?_
   refine au.nil ⟨⟨fun _ _=>.inr ⟨rfl,⟨_,aV rfl⟩,vA⟩,trivial,trivial,trivial,fun _ _=>.inr ⟨rfl,⟨_,iO rfl (jY _ _)⟩,aU _ rfl⟩,rD (.inr ⟨rfl,⟨_,aI rfl (by exact s0.ld (k:=1) rfl bg rfl)⟩,u3⟩) (.inr ⟨rfl,⟨_,aI rfl (by exact s1.ld (k:=1) rfl bg rfl)⟩,u3⟩) (.inr ⟨rfl,⟨_,aI rfl (by exact s2.ld (k:=1) rfl bg rfl)⟩,u3⟩),trivial,trivial,trivial⟩,?_⟩
   refine zr rfl (zb rfl (by exact bl (aF (by omega) (by omega))) ?_)
   refine zm rfl (zv ?_)
   refine Nx _ _ v5 ?_ ?_
   ·rw [U,hw]
    have s:=(s.del 1).del 1
    dsimp only [ai] at s
    simpa [List.append_assoc] using s
   ·exact ⟨rfl,rfl,rfl,rfl,rfl,trivial⟩
  ·skip
   refine ae.aR rfl rfl rfl (aI rfl (by exact s.ld (k:=1) rfl gU rfl)) (hw) ?_
   refine zv (zi rfl (zr rfl (za rfl (zv ?_))))
   have s0:=s
   have vA:=cg (s.buf (k:=0) rfl).view
   refine WP.drawn [some (0,2),none,none,none,some (0,3),some (0,3),none,none] rfl (by kernel_rfl) (by kernel_rfl) ?_
   refine zM rfl (zM rfl (au.any rfl rfl rfl rfl (OpR.DV (n:=1) rfl s rfl rfl rfl (by decide)) ?_))
   intro v3 h s
   have s:=s.aa [1,1,0]
   dsimp only [bringA,getA,ai] at s
   have s1:=s
   refine au.any rfl rfl rfl rfl (OpR.mI rfl (s.aa [0,1]) (bk _ _) rfl rfl rfl rfl (by simp; omega)) ?_
   intro v4 h s
   have s:=s.del 1
   dsimp only [ai,bringA] at s
   have s2:=s
   refine zF rfl (jY _ _) (zL rfl (by exact s.ld (k:=1) rfl bg rfl) ?_)
   refine au.any rfl rfl rfl rfl (OpR.call rfl rfl rfl rfl (wY hT (s.aa [0,1]) (bN _ _) (by simp; omega))) ?_
   intro v5 h s
   dsimp only [ai,bringA] at s
   refine zA rfl ?_
   refine au.nil ⟨⟨fun _ _=>.inr ⟨rfl,⟨_,aV rfl⟩,vA⟩,trivial,trivial,trivial,fun _ _=>.inr ⟨rfl,⟨_,iO rfl (jY _ _)⟩,aU _ rfl⟩,rD (.inr ⟨rfl,⟨_,aI rfl (by exact s0.ld (k:=1) rfl bg rfl)⟩,u3⟩) (.inr ⟨rfl,⟨_,aI rfl (by exact s1.ld (k:=1) rfl bg rfl)⟩,u3⟩) (.inr ⟨rfl,⟨_,aI rfl (by exact s2.ld (k:=1) rfl bg rfl)⟩,u3⟩),trivial,trivial,trivial⟩,?_⟩
   refine zr rfl (zb rfl (by exact bl (aF (by omega) (by omega))) ?_)
   refine zm rfl (zv ?_)
   refine Nx _ _ v5 ?_ ?_
   ·rw [U,hw]
    have s:=(s.del 1).del 1
    dsimp only [ai] at s
    simpa [List.append_assoc] using s
   ·exact ⟨rfl,rfl,rfl,rfl,rfl,trivial⟩
theorem Iz (J:W told){kd:Nat}{tx pv nx:Nat}{dt ch:V}{cs:List V}{data:List Nat}{aA:List bV}(s:Sat h (X::.arr 4 ch cs::bP cs aA::S))(hX:bU X (bZ dt data))(hg:cx kd aA=true)(I:rV aA)
 (Av:tx<18446744073709551616)(Qs:pv<18446744073709551616)(xR:nx<18446744073709551616)(hlen:data.length+(aA.flatMap jd).length≤70368744177664):
  Call ⟨Tryz.prog,told⟩ 121 [.agg (eC kd tx pv nx dt ch)] h fun r h'=>Sat h' (a_ r (cy kd tx pv nx data aA)::X::.arr 4 ch cs::bP cs aA::S):=by
 have U:=s.gx (j:=1) rfl
 have lz:=s.ax (k:=0) rfl hX
 have xD:=cg lz
 have fK:=h_ (kd:=kd) (tx:=tx) (pv:=pv) (nx:=nx) lz.cells.2 U.2.1
 have hk:1≤kd∧kd≤9:=by simp [cx] at hg; omega
 have mM:∀c∈aA,c.Ok:=by
  simp only [cx,Bool.and_eq_true,List.all_eq_true,decide_eq_true_eq] at hg
  exact hg.2
 have hm:=I.1
 have h1:=ey 9 tx
 have h2:=ey 9 pv
 have h3:=ey 9 nx
 have h4:=ey 9 data.length
 have h5:=ey 9 aA.length
 refine Call.of_wp (J.free _ rfl) Tryz.func121 rfl rfl (zg rfl (ae.bO s rfl rfl rfl (ff rfl fK) ?_))
 intro p1 h s
 dsimp only [V.cells] at s
 refine za rfl (zv (zg rfl (zf rfl (jX _ _) (zl rfl (by exact s.ld (k:=0) rfl cq rfl) ?_))))
 refine zo rfl (bz rfl (by exact gC Tryz.underlying3 Tryz.underlying5 (Ng (by omega) (by omega)))) ?_
 refine ae.any rfl rfl rfl (OpR.DV (n:=kd) rfl s rfl rfl rfl (by omega)) ?_
 intro v3 h s
 refine za rfl (zv (zw (zg rfl (zf rfl (vq _ _) (zl rfl (by exact s.ld (k:=1) rfl gP rfl) ?_)))))
 refine zf rfl (FU _ _) (zl rfl (by exact s.ld (k:=1) rfl gP rfl) ?_)
 refine zf rfl (FW _ _) (zl rfl (by exact s.ld (k:=1) rfl gP rfl) ?_)
 refine zo rfl (bW rfl (by rw [O5]; rfl)) ?_
 refine zm rfl (zv (WP.block (WP.loop (zg rfl (ae.aR rfl rfl rfl (af rfl rfl aX) (by decide) ?_)))))
 refine zv (zw (zi rfl (WP.skip (zw (WP.block (zg rfl (zo rfl (wJ rfl rfl (r:=.int .u64 (tx:Int)) (by simp only [indexV,Tryz.underlying205,mG,j9,gP]; rfl)) ?_)))))))
 refine za rfl (zv (zr rfl (zm rfl (zm rfl (ae.call rfl rfl rfl rfl rfl rfl rfl (kJ J s (by omega) (by simp only [List.length_append,List.length_cons,List.length_nil]; omega)) ?_)))))
 intro v3 h s
 refine za rfl (zv (zr rfl (zb rfl (by exact bl (aF (by omega) (by omega))) ?_)))
 refine zm rfl (zv (WP.loop (zg rfl (ae.aR rfl rfl rfl (af rfl rfl aX) (by decide) ?_))))
 refine zv (zw (zi rfl (WP.skip (zw (WP.block (zg rfl (zo rfl (wJ rfl rfl (r:=.int .u64 (pv:Int)) (by simp only [indexV,Tryz.underlying205,mG,j9,gP]; rfl)) ?_)))))))
 refine za rfl (zv (zr rfl (zm rfl (zm rfl (ae.call rfl rfl rfl rfl rfl rfl rfl (kJ J s (by omega) (by simp only [List.length_append,List.length_cons,List.length_nil]; omega)) ?_)))))
 intro v3 h s
 refine za rfl (zv (zr rfl (zb rfl (by exact bl (aF (by omega) (by omega))) ?_)))
 refine zm rfl (zv (WP.loop (zg rfl (ae.aR rfl rfl rfl (af rfl rfl aX) (by decide) ?_))))
 refine zv (zw (zi rfl (WP.skip (zw (WP.block (zg rfl (zo rfl (wJ rfl rfl (r:=.int .u64 (nx:Int)) (by simp only [indexV,Tryz.underlying205,mG,j9,gP]; rfl)) ?_)))))))
 refine za rfl (zv (zr rfl (zm rfl (zm rfl (ae.call rfl rfl rfl rfl rfl rfl rfl (kJ J s (by omega) (by simp only [List.length_append,List.length_cons,List.length_nil]; omega)) ?_)))))
 intro v3 h s
 refine za rfl (zv (zr rfl (zb rfl (by exact bl (aF (by omega) (by omega))) ?_)))
 refine zm rfl (zv (WP.loop (zg rfl (ae.aE rfl rfl rfl (af rfl rfl aX) (by decide) ?_))))
 refine zv (zw (zj rfl (WP.exit (zw ?_))))
 dsimp only [List.cons_append,List.nil_append] at s
 have s0:=s
 have Ci:=cg (s.buf (k:=0) rfl).view
 refine WP.drawn [none,none,none,none,some (0,2),some (0,2),some (0,2),some (0,2),none,none] rfl (by kernel_rfl) (by kernel_rfl) ?_
 refine zM rfl (zF rfl (nO _ _) (zL rfl (by exact s.ld (k:=1) rfl bg rfl) ?_))
 refine au.any rfl rfl rfl rfl (OpR.call rfl rfl rfl rfl (wY J (s.aa [0,1]) hX (by simp only [List.length_append,List.length_cons,List.length_nil]; omega))) ?_
 intro v4 h s
 have s:=s.aa [0,1,0]
 dsimp only [List.cons_append,ai,bringA,getA] at s
 have s1:=s
 refine zF rfl (iX _ _) (zL rfl (by exact s.ld (k:=1) rfl nN rfl) ?_)
 refine zO rfl (aL rfl rfl rfl (s.pF (j1:=3) (j2:=4) rfl rfl Tryz.underlying38)) (au.op rfl rfl rfl (by simp only [isEff,Tryz.underlying35]) (bz rfl (by exact gC Tryz.underlying3 Tryz.underlying35 (dM (by omega) (by omega)))) ?_)
 refine au.any rfl rfl rfl rfl (OpR.call rfl rfl rfl rfl (kJ J s (by omega) (by simp only [List.length_append,List.length_cons,List.length_nil]; omega))) ?_
 intro v5 h s
 dsimp only [List.cons_append] at s
 refine zA rfl ?_
 refine au.nil ⟨⟨trivial,trivial,trivial,trivial,fun _ _=>.inr ⟨rfl,⟨_,iO rfl (iX _ _)⟩,aU _ rfl⟩,cR (.inr ⟨rfl,⟨_,aI rfl (by exact s0.ld (k:=1) rfl nN rfl)⟩,U.2.2⟩) (.inr ⟨rfl,⟨_,aI rfl (by exact s1.ld (k:=1) rfl nN rfl)⟩,U.2.2⟩),cR (.inr ⟨rfl,⟨_,aL rfl rfl rfl (s0.pF (j1:=3) (j2:=4) rfl rfl Tryz.underlying38)⟩,aU _ rfl⟩) (.inr ⟨rfl,⟨_,aL rfl rfl rfl (s1.pF (j1:=3) (j2:=4) rfl rfl Tryz.underlying38)⟩,aU _ rfl⟩),fun _ _=>.inr ⟨rfl,⟨_,bz rfl (by exact gC Tryz.underlying3 Tryz.underlying35 (dM (by omega) (by omega)))⟩,aU _ rfl⟩,trivial,trivial,trivial⟩,?_⟩
 refine zw (zg rfl (zf rfl (iX _ _) (zl rfl (by exact s.ld (k:=1) rfl nN rfl) ?_)))
 refine zo rfl (aL rfl rfl rfl (s.pF (j1:=3) (j2:=4) rfl rfl Tryz.underlying38)) (zm rfl (zv (WP.block ?_)))
 have s:=s.aa [0,2,2,1]
 dsimp only [bringA,getA,ai] at s
 refine Gp J mM I aA.length 0 v5 _ _ _ _ (by omega) (by rw [List.drop_zero]; simp only [List.length_append,List.length_cons,List.length_nil]; omega) s ⟨rfl,rfl,rfl,rfl,rfl,trivial⟩ (fun E' h' Ny fu s' => ?_)
 refine WP.has (F:=[(3,Ny)]) ⟨fu,trivial⟩ (zg rfl (zm rfl (za rfl (zv ?_))))
 refine WP.ret ⟨trivial,_,rfl,?_⟩
 have Qt:=(s'.aa [0,2,0,0]).del 4
 dsimp only [List.drop,List.cons_append,bringA,getA,ai] at Qt
 simpa [cy,List.append_assoc] using Qt
end
end Go.Proofs.YtconhghphklfjaaGreat.Am
namespace Go.Proofs.YtconhghphklfjaaGreat.Am
open Go
def eW (aD:Nat)(b:List Nat): List Nat:=le 4 b.length++le 4 (mZ aD b)++b
theorem nY (aD:Nat)(b:List Nat): (eW aD b).length=8+b.length:=by simp [eW,cM]; omega
theorem Aw : ∃i,Tryz.prog.info? 3=some i∧i.size=1∧i.bytes=8 :=
 ⟨_,(show Tryz.prog.info? 3=some ((Tryz.prog.info? 3).getD default) by kernel_rfl),by kernel_rfl,by kernel_rfl⟩
section
variable {told:Nat→Option (List V→H→Option (V×H))} {h:H} {S:List ah} {X:ah} {k q p:Nat} {v w:V} {l m:List Nat} {μ:Lg} {δ:Dk}
theorem xS (I:W told){n:Nat}(s:Sat h S)(J:getA S k=some X)(U:bU X (bZ v l))(hl:l.length≤4611686018427387904):
  Call ⟨Tryz.prog,told⟩ 100 [.int .u64 (n:Int),v] h fun r h'=>r=.int .u32 (mZ n l:Nat)∧Sat h' S :=
 (F_ I.Kf s.wf (s.ax J U) hl).mono fun _ _ ⟨h1,h2⟩=>⟨h1,s.bX h2⟩
structure vI (tx pv nx:Nat)(data:List Nat)(aA:List bV): Prop where
 fit:rV aA
 tx:tx<18446744073709551616
 pv:pv<18446744073709551616
 nx:nx<18446744073709551616
 len:data.length+(aA.flatMap jd).length≤70368744177664
theorem Gq (J:W told){kd:Int}{tx pv nx aD:Nat}{dt ch:V}{cs:List V}{data:List Nat}{aA:List bV}(s:Sat h (X::.arr 4 ch cs::bP cs aA::S))(hX:bU X (bZ dt data))(I:vI tx pv nx data aA):
  Call ⟨Tryz.prog,told⟩ 88 [.agg (eC kd tx pv nx dt ch),.int .u64 (aD:Int)] h fun r h' =>
  (cx kd aA=false∧r=.aW [.aH,.int .i64 1]∧Sat h' (X::.arr 4 ch cs::bP cs aA::S)) ∨
  (cx kd aA=true∧1048576<(cy kd tx pv nx data aA).length∧r=.aW [.aH,.int .i64 2]∧Sat h' (X::.arr 4 ch cs::bP cs aA::S)) ∨
  (cx kd aA=true∧(cy kd tx pv nx data aA).length≤1048576∧∃u,r=.aW [u,.int .i64 0]∧Sat h' (a_ u (eW aD (cy kd tx pv nx data aA))::X::.arr 4 ch cs::bP cs aA::S)):=by
 have j5:=s.gx (j:=1) rfl
 have U:=s.ax (k:=0) rfl hX
 have fK:=h_ (kd:=kd) (tx:=tx) (pv:=pv) (nx:=nx) U.cells.2 j5.2.1
 refine Call.of_wp (J.free _ rfl) Tryz.func88 rfl rfl (zg rfl (ae.bO s rfl rfl rfl (ff rfl fK) ?_))
 intro p1 h s
 dsimp only [V.cells] at s
 refine za rfl (za rfl (zv (zw (zg rfl (zl rfl (by exact s.dF (k:=0) rfl jr dK) ?_)))))
 refine ae.call rfl rfl rfl rfl rfl rfl rfl (Au J (s.aa [2,2]) U.cells.2 I.fit) ?_
 rintro r h' ⟨rfl,s⟩
 dsimp only [bringA,getA,ai] at s
 cases hg:cx kd aA with
 | false =>
  refine zo rfl (dA rfl rfl) (zv (zi rfl (zg rfl (za rfl (za rfl (zv ?_))))))
  refine WP.ret ⟨trivial,_,rfl,?_⟩
  exact .inl ⟨rfl,rfl,(s.aa [3,0,0]).del 3⟩
 | true =>
  refine zo rfl (dA rfl rfl) (zv (zj rfl (WP.skip (zg rfl (zl rfl (by exact s.dF (k:=2) rfl jr dK) ?_)))))
  have hk:∃n:Nat,kd=n:=⟨kd.toNat,by simp [cx] at hg; omega⟩
  obtain ⟨kd,rfl⟩:=hk
  refine ae.call rfl rfl rfl rfl rfl rfl rfl (Iz J (s.aa [3,0,0]) hX hg I.fit I.tx I.pv I.nx I.len) ?_
  intro u h s
  dsimp only [bringA,getA,ai] at s
  have qZ:(cy kd tx pv nx data aA).length<9223372036854775808:=by
   have h1:=ey 9 tx
   have h2:=ey 9 pv
   have h3:=ey 9 nx
   have h4:=ey 9 data.length
   have h5:=ey 9 aA.length
   have h6:=I.len
   simp only [cy,List.length_append,List.length_cons,List.length_nil]
   omega
  generalize uX:cy kd tx pv nx data aA=bd at s qZ ⊢
  refine za rfl (zv (zw (zg rfl (zm rfl (zo rfl (aL rfl rfl rfl (by exact aG Tryz.underlying32 (s.ax (k:=0) rfl (bk _ _)))) ?_)))))
  by_cases Ax:1048576<bd.length
  ·skip
   refine ae.aR rfl rfl rfl (af rfl rfl dS) (by simp; omega) ?_
   refine zv (zi rfl (zg rfl (za rfl (za rfl (zv ?_)))))
   refine WP.ret ⟨trivial,_,rfl,?_⟩
   exact .inr (.inl ⟨rfl,Ax,rfl,(s.del 4).del 0⟩)
  ·skip
   refine ae.aE rfl rfl rfl (af rfl rfl dS) (by simp; omega) ?_
   refine zv (zj rfl (WP.skip (zg rfl (zm rfl (zo rfl (aL rfl rfl rfl (by exact aG Tryz.underlying32 (s.ax (k:=0) rfl (bk _ _)))) ?_)))))
   refine zb rfl (by exact bl (aF (by omega) (by omega))) ?_
   refine ae.any rfl rfl rfl (OpR.o_ (c:=8+bd.length) rfl s rfl rfl rfl rfl (by omega)) ?_
   intro v h s
   refine zm rfl (zo rfl (aL rfl rfl rfl (by exact aG Tryz.underlying32 (s.ax (k:=1) rfl (bk _ _)))) ?_)
   refine zo rfl (bz rfl (by exact gC Tryz.underlying3 Tryz.underlying35 (dM (by omega) (by omega)))) ?_
   refine ae.call rfl rfl rfl rfl rfl rfl rfl (Aq (z:=4) J s (by decide) (by simp)) ?_
   intro v h s
   have bB:=(s.buf (k:=1) rfl).1
   refine za rfl (zv (zg rfl (zm rfl (zm rfl (zm rfl (ae.call rfl rfl rfl rfl rfl rfl rfl (xS (n:=aD) J s (k:=1) rfl (bk _ _) (by omega)) ?_))))))
   rintro r h ⟨rfl,s⟩
   have iU:=Aj (aD:=aD) bB
   refine zo rfl (bz rfl (by exact gC Tryz.underlying155 Tryz.underlying35 (dM (by omega) (by omega)))) ?_
   refine ae.call rfl rfl rfl rfl rfl rfl rfl (Aq (z:=4) J s (by decide) (by simp [cM])) ?_
   intro v h s
   refine za rfl (zv (zg rfl (zm rfl (zm rfl (ae.any rfl rfl rfl (OpR.mI rfl s (bk _ _) rfl rfl rfl rfl (by simp only [List.length_append,cM,List.length_nil]; omega)) ?_)))))
   intro v h s
   refine za rfl (za rfl (zv ?_))
   refine WP.ret ⟨trivial,_,rfl,?_⟩
   refine .inr (.inr ⟨rfl,by omega,v,rfl,?_⟩)
   have s:=(s.del 5).del 1
   dsimp only [ai] at s
   simpa [eW,List.append_assoc] using s
def Lg.app (μ:Lg)(b:List Nat): Lg:={ μ with b:=μ.b++b,bE:=μ.bE++[μ.b.length] }
theorem D_ (hT:W told){kd:Int}{tx pv nx:Nat}{dt ch:V}{cs:List V}{data:List Nat}{aA:List bV}(s:Sat h (bj q p μ::az p δ::X::.arr 4 ch cs::bP cs aA::S))(hX:bU X (bZ dt data))(gV:vI tx pv nx data aA)
 (J:μ.Ok)(hf:δ.aJ<4294967296)(hl:δ.log.length≤16777216)(hr:δ.room≤16777216):
  Call ⟨Tryz.prog,told⟩ 48 [.ptr q 0,.agg (eC kd tx pv nx dt ch)] h fun r h' =>
  (∃e:Int,r=.aW [.int .u64 0,.int .i64 e]∧((cx kd aA=false∧e=1)∨(cx kd aA=true∧1048576<(cy kd tx pv nx data aA).length∧e=2)∨(cx kd aA=true∧(cy kd tx pv nx data aA).length≤1048576∧δ.dead=true∧e=9) ∨
    (cx kd aA=true∧(cy kd tx pv nx data aA).length≤1048576∧δ.dead=false∧δ.room<δ.log.length+(eW (μ.base+μ.b.length) (cy kd tx pv nx data aA)).length∧e=7))∧Sat h' (bj q p μ::az p δ::X::.arr 4 ch cs::bP cs aA::S)) ∨
  (cx kd aA=true∧(cy kd tx pv nx data aA).length≤1048576∧δ.dead=false∧δ.log.length+(eW (μ.base+μ.b.length) (cy kd tx pv nx data aA)).length≤δ.room∧δ.aJ=0∧r=.aW [.int .u64 0,.int .i64 9] ∧
   Sat h' (bj q p μ::az p { δ.die with tail:=eW (μ.base+μ.b.length) (cy kd tx pv nx data aA) }::X::.arr 4 ch cs::bP cs aA::S)) ∨
  (cx kd aA=true∧(cy kd tx pv nx data aA).length≤1048576∧δ.dead=false∧δ.log.length+(eW (μ.base+μ.b.length) (cy kd tx pv nx data aA)).length≤δ.room∧δ.aJ≠0∧r=.aW [.int .u64 ((μ.base+μ.b.length:Nat):Int),.int .i64 0] ∧
   Sat h' (bj q p (μ.app (eW (μ.base+μ.b.length) (cy kd tx pv nx data aA)))::az p { δ.cO with log:=δ.log++eW (μ.base+μ.b.length) (cy kd tx pv nx data aA) }::X::.arr 4 ch cs::bP cs aA::S)):=by
 have j5:=s.gx (j:=3) rfl
 have lz:=s.ax (k:=2) rfl hX
 have fK:=h_ (kd:=kd) (tx:=tx) (pv:=pv) (nx:=nx) lz.cells.2 j5.2.1
 have D8:=J.size
 refine Call.of_wp (hT.free _ rfl) Tryz.func48 rfl rfl (zg rfl (ae.bO s rfl rfl rfl (ff rfl fK) ?_))
 intro p1 h s
 dsimp only [V.cells] at s
 have s:=s.aa [1,0]
 dsimp only [bringA,getA,ai] at s
 refine za rfl (za rfl (zv (zg rfl (zm rfl (ae.call rfl rfl rfl rfl rfl rfl rfl (nq hT s J.size) ?_)))))
 rintro v h' ⟨rfl,rfl⟩
 refine za rfl (zv (zg rfl (zl rfl (by exact s.dF (k:=1) rfl jr dK) ?_)))
 refine zm rfl (ae.call rfl rfl rfl rfl rfl rfl rfl (Gq (aD:=μ.base+μ.b.length) hT (s.aa [3,3,3]) hX gV) ?_)
 generalize TB:eW (μ.base+μ.b.length) (cy kd tx pv nx data aA)=rc
 have xT:rc.length=8+(cy kd tx pv nx data aA).length:=by rw [←TB,nY]
 rintro r h' (⟨hg,rfl,s⟩ | ⟨hg,Ax,rfl,s⟩ | ⟨hg,U,u,rfl,s⟩)
 ·dsimp only [bringA,getA,ai] at s
  refine zm rfl (ze rfl (ze rfl (za rfl (za rfl (zv (zw (zg rfl (zm rfl (ae.aR rfl rfl rfl (af rfl rfl aN) (rfl) (zv (zi rfl (zg rfl (zm rfl (za rfl (za rfl (zv ?_))))))))))))))))
  refine WP.ret ⟨trivial,_,rfl,?_⟩
  exact .inl ⟨1,rfl,.inl ⟨hg,rfl⟩,(s.aa [3,4,0,0,0]).del 5⟩
 ·dsimp only [bringA,getA,ai] at s
  refine zm rfl (ze rfl (ze rfl (za rfl (za rfl (zv (zw (zg rfl (zm rfl (ae.aR rfl rfl rfl (af rfl rfl aN) (rfl) (zv (zi rfl (zg rfl (zm rfl (za rfl (za rfl (zv ?_))))))))))))))))
  refine WP.ret ⟨trivial,_,rfl,?_⟩
  exact .inl ⟨2,rfl,.inr (.inl ⟨hg,Ax,rfl⟩),(s.aa [3,4,0,0,0]).del 5⟩
 ·dsimp only [bringA,getA,ai] at s
  have bB:=(s.buf (k:=0) rfl).1
  obtain ⟨qM,_,cap,_,rfl,_⟩:=s.gJ (by omega)
  obtain ⟨bv,sv,s⟩:=dB.1 (s.aa [4])
  dsimp only [bringA,getA,ai] at s
  refine zm rfl (ze rfl (ze rfl (za rfl (za rfl (zv (zw (zg rfl (zm rfl (ae.aE rfl rfl rfl (af rfl rfl aN) (rfl) (zv (zj rfl (WP.skip (zw (zg rfl (zm rfl (zn rfl (zf rfl (CG _ _) (zl rfl (by exact s.ld (k:=0) rfl mF rfl) ?_))))))))))))))))))
  refine zm rfl ?_
  have s:=s.aa [8,3]
  dsimp only [bringA,getA,ai] at s
  refine ae.call rfl rfl rfl rfl rfl rfl rfl (D3 hT s (bk _ _) (by omega) hf (by omega) (by omega)) ?_
  rintro r h (⟨hd,rfl,s⟩ | ⟨hd,Ki,rfl,s⟩ | ⟨hd,I,h0,rfl,s⟩ | ⟨hd,I,h0,rfl,s⟩)
  ·refine ae.op rfl rfl rfl (c_ rfl) ?_
   refine zv (zg rfl (zm rfl (ae.aR rfl rfl rfl (af rfl rfl aN) (rfl) (zv (zi rfl (zg rfl (zm rfl (za rfl (za rfl (zv ?_))))))))))
   refine WP.ret ⟨trivial,_,rfl,?_⟩
   exact .inl ⟨9,rfl,.inr (.inr (.inl ⟨hg,U,hd,rfl⟩)),(dB.2 ⟨bv,sv,((s.aa [2,2,2,0,1,1,1]).del 8).del 7⟩)⟩
  ·skip
   refine za rfl (zv (zg rfl (zm rfl (ae.aR rfl rfl rfl (af rfl rfl aN) (rfl) (zv (zi rfl (zg rfl (zm rfl (za rfl (za rfl (zv ?_)))))))))))
   refine WP.ret ⟨trivial,_,rfl,?_⟩
   exact .inl ⟨7,rfl,.inr (.inr (.inr ⟨hg,U,hd,by omega,rfl⟩)),(dB.2 ⟨bv,sv,((s.aa [2,2,2,0,1,1,1]).del 8).del 7⟩)⟩
  ·skip
   refine za rfl (zv (zg rfl (zm rfl (ae.aR rfl rfl rfl (af rfl rfl aN) (rfl) (zv (zi rfl (zg rfl (zm rfl (za rfl (za rfl (zv ?_)))))))))))
   refine WP.ret ⟨trivial,_,rfl,?_⟩
   exact .inr (.inl ⟨hg,U,hd,I,h0,rfl,(dB.2 ⟨bv,sv,((s.aa [2,2,2,0,1,1,1]).del 8).del 7⟩)⟩)
  ·skip
   have s:=s.aa [2,2,2,1,0,0,0,0]
   dsimp only [bringA,getA,ai] at s
   refine za rfl (zv (zg rfl (zm rfl (ae.aE rfl rfl rfl (af rfl rfl aN) (rfl) (zv (zj rfl (WP.skip (zw ?_))))))))
   have s0:=s
   have Qu:=cg (s.buf (k:=1) rfl).view
   have xU:=(s.gx (j:=2) rfl).2.2
   refine WP.drawn [some (0,3),some (0,2),some (0,2),some (0,2),some (0,2),none,none,none,none,none,none,none,none,none,none] rfl (by kernel_rfl) (by kernel_rfl) ?_
   refine zM rfl (zM rfl (zN rfl (zF rfl (jF _ _) (zL rfl (by exact s.ld (k:=0) rfl rN rfl) ?_))))
   refine zM rfl (zN rfl (zF rfl (cP _ _) (zL rfl (by exact s.ld (k:=0) rfl bg rfl) ?_)))
   refine zO rfl (aL rfl rfl rfl (by exact aG Tryz.underlying32 (s.ax (k:=1) rfl (bk _ _)))) ?_
   obtain ⟨i1,js,iI,pq⟩:=Aw
   obtain ⟨iv,h1,e1,s1⟩:=jG (P:=Tryz.prog) (k:=1) (x:=.int .i64 (μ.b.length:Int)) s Tryz.underlying98 FT jh rfl (by decide) (by decide) rfl rfl
   dsimp only [V.cells] at s1
   refine au.any rfl rfl rfl rfl (OpR.of (R:=fun v h'=>v=iv∧h'=h1) (mD rfl e1) ⟨rfl,rfl⟩) ?_
   rintro v h' ⟨rfl,rfl⟩
   have D7:=J.many
   obtain ⟨Ny,h2,e2,s2⟩:=fP (s1.aa [3,0]) Tryz.underlying98 js FT iI (by omega) rfl (by decide) (by simp only [ox,List.length_cons,List.length_nil]; omega)
   dsimp only [bringA,getA,ai] at s2
   refine au.any rfl rfl rfl rfl (OpR.of (R:=fun v h'=>v=Ny∧h'=h2) (j_ rfl rfl e2) ⟨rfl,rfl⟩) ?_
   rintro v h' ⟨rfl,rfl⟩
   have hv:=s2.gx (j:=0) rfl
   refine zN rfl (zF rfl (jF _ _) (au.fI rfl rfl rfl (OpR.bn rfl rfl rfl (s2.cZ (k:=2) rfl Np rfl (by decide) hv.1 hv.2.1)) ?_))
   rintro v h ⟨rfl,s⟩
   dsimp only [mL,eC,List.length_cons,List.length_nil,Nat.reduceAdd,List.set,setA] at s
   refine au.nil ⟨⟨fun _ _=>.inr ⟨rfl,⟨_,aV rfl⟩,aU _ rfl⟩,fun _ _=>.inr ⟨rfl,⟨_,aV rfl⟩,aU _ rfl⟩,fun _ _=>.inr ⟨rfl,⟨_,kX rfl⟩,aU _ rfl⟩,fun _ _=>.inr ⟨rfl,⟨_,iO rfl (jF _ _)⟩,aU _ rfl⟩,cR (.inr ⟨rfl,⟨_,aI rfl (by exact s0.ld (k:=0) rfl rN rfl)⟩,xU⟩) (.inr ⟨rfl,⟨_,aI rfl (by exact s1.ld (k:=1) rfl rN rfl)⟩,xU⟩),trivial,trivial,trivial,trivial,trivial,trivial,trivial,trivial,trivial,trivial,trivial⟩,?_⟩
   refine zg rfl (zm rfl (zm rfl (zn rfl (zf rfl (cP _ _) (zl rfl (by exact s.ld (k:=2) rfl bg rfl) ?_)))))
   refine zm rfl (ae.any rfl rfl rfl (OpR.mI rfl (s.aa [3,3]) (bk _ _) rfl rfl rfl rfl (by have:=J.len; omega)) ?_)
   intro TC h s
   have hv:=(s.buf (k:=0) rfl).view.cells
   dsimp only [bringA,getA,ai] at s
   refine zn rfl (zf rfl (cP _ _) (ae.bn rfl rfl rfl rfl rfl (s.cZ (k:=4) rfl ig rfl (by decide) hv.1 hv.2) ?_))
   intro h s
   dsimp only [Nat.reduceAdd,List.set,setA] at s
   refine zv (zg rfl (zm rfl (za rfl (za rfl (zv ?_)))))
   refine WP.ret ⟨trivial,_,rfl,?_⟩
   refine .inr (.inr ⟨hg,U,hd,I,h0,rfl,dB.2 ⟨TC,v,?_⟩⟩)
   have s:=(((s.aa [4,0,1]).del 4).del 3).del 7
   dsimp only [bringA,getA,ai] at s
   have e:gz (μ.app rc).bE=gz μ.bE++[.int .i64 (μ.b.length:Int)]:=by simp [Lg.app,gz]
   rw [e]
   exact s
end
end Go.Proofs.YtconhghphklfjaaGreat.Am
