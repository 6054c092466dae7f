/- After a crash the log has the records of the groups that are there and no others, with their numbers and data; the conditions are those of the given statement, for arguments that a machine can hold. Part 27 of 54. -/
import Derived.Test.YtconhghphklfjaaGreatL26
namespace Go.Proofs.YtconhghphklfjaaGreat.Am
open Go
def lJ (t:List Bool): List V:=t.map V.bool
theorem CP (t:List Bool)(k:Nat)(b:Bool): (lJ t).set k (.bool b)=lJ (t.set k b):=by simp [lJ,List.map_set]
theorem sW {t:List Bool}{k:Nat}(I:k<t.length): nth (lJ t) k=some (.bool (t.getD k false)):=by
 rw [dG]; simp [lJ,List.getElem?_eq_getElem I]
theorem Iv : zeroT Tryz.prog 147=some (.agg (lJ (List.replicate 512 false))):=by kernel_rfl
def markL : Nat→Nat→List Bool→Option (List Bool)
 | 0,_,t=>some t
 | n+1,k,t=>if t.getD k false then none else markL n (k+1) (t.set k true)
def cellsL (l:List Nat)(low:Nat): Nat→Nat→List Bool→Bool
 | 0,_,_=>true
 | n+1,i,t=>if fS l i<low∨512<fS l i+iz l i then false else match markL (iz l i) (fS l i) t with
  | none=>false
  | some t'=>cellsL l low n (i+1) t'
def bu (l:List Nat): Bool:=decide (l.length=512)&&(decide (l.getD 13 0=0)&&(decide (26+4*gy l≤fh l∧fh l≤512)&&cellsL l (fh l) (gy l) 0 (List.replicate 512 false)))
theorem xP : ∀(n k:Nat) (t t':List Bool),markL n k t=some t'→t'.length=t.length:=by
 intro n
 induction n with
 | zero=>intro k t t' h; simp only [markL] at h; injection h with h; subst h; rfl
 | succ n I =>
  intro k t t' h
  simp only [markL] at h
  split at h
  ·cases h
  ·have:=I _ _ _ h; simpa using this
section
variable {told:Nat→Option (List V→H→Option (V×H))} {h:H} {S:List ah} {X:ah} {k:Nat} {v:V} {l:List Nat}
theorem Lm (I:W told){i:Nat}(s:Sat h S)(J:getA S k=some X)(U:bU X (bZ v l))(hl:l.length=512)(hi:30+4*i≤512):
  Call ⟨Tryz.prog,told⟩ 80 [.agg [v],.int .i64 (i:Int)] h fun r h'=>r=.aW [.int .i64 (fS l i),.int .i64 (iz l i)]∧Sat h' S:=by
 have hv:=s.ax J U
 obtain ⟨pi,po,pc,rfl⟩:=gX hv (by omega)
 have e1:(26+4*(i:Int)).toNat=26+4*i:=by omega
 have e2:(26+4*(i:Int)+2).toNat=26+4*i+2:=by omega
 refine Call.of_wp (I.free _ rfl) Tryz.func80 rfl rfl (zg rfl ?_)
 refine ae.bO s rfl rfl rfl (ff rfl rfl) (fun p2 h s => ?_)
 dsimp only [V.cells,List.length_cons,List.length_nil,Nat.reduceAdd] at s
 refine za rfl (za rfl (zv (zg rfl (zm rfl (zb rfl (by exact uk (aF (by omega) (by omega))) ?_)))))
 refine zb rfl (by exact bl (aF (by omega) (by omega))) ?_
 refine za rfl (zv (zw ?_))
 have s0:=s
 refine WP.drawn [none,none,none,some (0,2),some (0,2),some (0,2),none,none,none] rfl (by kernel_rfl) (by kernel_rfl) ?_
 refine zL rfl (by exact s.dF (k:=0) rfl ew cF) ?_
 refine zM rfl (au.any rfl rfl rfl rfl (OpR.call rfl rfl rfl rfl (nX I s (ng J) U (by omega) (by decide) (by decide) (by omega) (by omega))) ?_)
 rintro r h' ⟨rfl,s⟩
 rw [e1]
 have s1:=s
 refine zL rfl (by exact s.dF (k:=0) rfl ew cF) ?_
 refine zM rfl (zO rfl (af rfl rfl (by exact bl (aF (by omega) (by omega)))) ?_)
 refine au.any rfl rfl rfl rfl (OpR.call rfl rfl rfl rfl (nX I s (ng J) U (by omega) (by decide) (by decide) (by omega) (by omega))) ?_
 rintro r h' ⟨rfl,s⟩
 rw [e2]
 refine zA rfl (zA rfl ?_)
 refine au.nil ⟨⟨trivial,trivial,trivial,cR (.inr ⟨rfl,⟨_,aI rfl (by exact s0.dF (k:=0) rfl ew cF)⟩,aU _ rfl⟩) (.inr ⟨rfl,⟨_,aI rfl (by exact s1.dF (k:=0) rfl ew cF)⟩,aU _ rfl⟩),fun _ _=>.inr ⟨rfl,⟨_,aV rfl⟩,aU _ rfl⟩,fun _ _=>.inr ⟨rfl,⟨_,af rfl rfl (by exact bl (aF (by omega) (by omega)))⟩,aU _ rfl⟩,trivial,trivial,trivial,trivial⟩,?_⟩
 refine WP.ret ⟨trivial,_,rfl,?_⟩
 exact ⟨rfl,s.drop⟩
noncomputable def Tv : Code:=cn [1,1,1,1,1,1,0,1,0,0] ((Tryz.f43.body).getD .skip)
noncomputable def Tw : Code:=cn [1,1,1,1,1,1,0,1,0,0,1,1,0,0,1,1,1,1,0,0] ((Tryz.f43.body).getD .skip)
theorem D4 {I a z:Nat}{v3 v4 v5 v35 v36:V}(Tx:a+z≤512): ∀(m q:Nat) (t:List Bool) (h:H) (E:List (Nat×V)) (Q:Ex→List (Nat×V)→H→Prop),q+m=a+z→t.length=512 →
  Sat h (pt I (.cells 512 (lJ t) false)::S)→Has E [(3,v3),(4,v4),(5,v5),(6,.ptr I 0),(8,.int .i64 (a:Int)),(9,.int .i64 (z:Int)),(10,.int .i64 (q:Int)),(35,v35),(36,v36)] →
  (markL m q t=none→∀J h',look J 2=some (.bool false)→Sat h' S→Q .ret J h') →
  (∀t' J h',markL m q t=some t'→Has J [(3,v3),(4,v4),(5,v5),(6,.ptr I 0),(35,v35),(36,v36)]→Sat h' (pt I (.cells 512 (lJ t') false)::S)→Q (.exit 2) J h') →
  WP ⟨Tryz.prog,told⟩ 68 (.loop Tw) E h Q:=by
 intro m
 induction m with
 | zero =>
  intro q t h E Q hq ht s hE hr hx
  refine WP.loop (WP.has hE (zw (zg rfl (zm rfl (zm rfl (zm rfl (zb rfl (by exact bl (aF (by omega) (by omega))) ?_)))))))
  refine ae.aE rfl rfl rfl (af rfl rfl aX) (by simp; omega) ?_
  refine zv (zj rfl (WP.exit ?_))
  exact hx t _ _ rfl ⟨rfl,rfl,rfl,rfl,rfl,rfl,trivial⟩ s
 | succ m ih =>
  intro q t h E Q hq ht s hE hr hx
  have U:q<t.length:=by omega
  refine WP.loop (WP.has hE (zw (zg rfl (zm rfl (zm rfl (zm rfl (zb rfl (by exact bl (aF (by omega) (by omega))) ?_)))))))
  refine ae.aR rfl rfl rfl (af rfl rfl aX) (by simp; omega) ?_
  refine zv (zi rfl (WP.skip (zw (WP.block (zw (zg rfl (zm rfl (zo rfl (cH (r:=.ptr I q) rfl rfl (by rw [J4,show (decide ((0:Int)≤(q:Int))&&decide ((q:Int)<((512:Nat):Int)))=true by simp; omega,cond_true]; simp)) ?_))))))))
  cases hm:t.getD q false with
  | true =>
   refine ae.aR rfl rfl rfl (aI rfl (s.ld (k:=0) rfl gU (sW U))) (hm) (zv (zi rfl (zg rfl (za rfl (zv (WP.ret ?_))))))
   refine hr ?_ _ _ rfl s.drop
   rw [markL,if_pos hm]
  | false =>
   refine ae.aE rfl rfl rfl (aI rfl (s.ld (k:=0) rfl gU (sW U))) (hm) (zv (zj rfl (WP.skip (zr rfl (zm rfl (zo rfl (cH (r:=.ptr I q) rfl rfl (by rw [J4,show (decide ((0:Int)≤(q:Int))&&decide ((q:Int)<((512:Nat):Int)))=true by simp; omega,cond_true]; simp)) ?_))))))
   refine ae.bn rfl rfl rfl rfl rfl (s.cZ (k:=0) rfl qK (by simp [lJ,ht]) (by omega) rfl rfl) ?_
   intro h s
   dsimp only [setA] at s
   rw [CP] at s
   refine zv (zr rfl (zm rfl (zb rfl (by exact bl (aF (by omega) (by omega))) ?_)))
   refine za rfl (zv ?_)
   have e:markL (m+1) q t=markL m (q+1) (t.set q true):=by rw [markL,if_neg (by rw [hm]; decide)]
   rw [e] at hr hx
   exact ih (q+1) (t.set q true) h _ Q (by omega) (by simp [ht]) s ⟨rfl,rfl,rfl,rfl,rfl,rfl,rfl,rfl,rfl,trivial⟩ hr hx
theorem D5 (hT:W told){p6 p3:Nat}{n low:Nat}{x:V}(hX:bU X (bZ x l))(hl:l.length=512)(bB:∀b∈l,b<256)(P7:x.cells=[x])(V3:storable x=true)(hn:n=gy l)(Iw:26+4*n≤low)(Pf:low≤512): ∀(m i:Nat) (t:List Bool) (h:H) (E:List (Nat×V)) (Q:Ex→List (Nat×V)→H→Prop),i+m=n→t.length=512 →
  Sat h (pt p6 (.cells 512 (lJ t) false)::pt p3 (.cells 1 [x] false)::X::S)→Has E [(3,.ptr p3 0),(4,.int .i64 (n:Int)),(5,.int .i64 (low:Int)),(6,.ptr p6 0),(35,.int .i64 (n:Int)),(36,.int .i64 (i:Int))] →
  (cellsL l low m i t=false→∀U h',look U 2=some (.bool false)→Sat h' (X::S)→Q .ret U h') →
  (cellsL l low m i t=true→∀U h',Sat h' (X::S)→Q (.exit 0) U h') →
  WP ⟨Tryz.prog,told⟩ 68 (.loop Tv) E h Q:=by
 intro m
 induction m with
 | zero =>
  intro i t h E Q hi ht s hE J hx
  refine WP.loop (WP.has hE (zg rfl (ae.aE rfl rfl rfl (af rfl rfl aX) (by simp; omega) ?_)))
  refine zv (zw (zj rfl (WP.exit ?_)))
  exact hx rfl _ _ s.drop.drop
 | succ m ih =>
  intro i t h E Q hi ht s hE J hx
  have hf:=lu (l:=l) (a:=26+4*i) (z:=2) bB
  have hz:=lu (l:=l) (a:=26+4*i+2) (z:=2) bB
  have ef:fS l i=dm l (26+4*i) 2:=rfl
  have ez:iz l i=dm l (26+4*i+2) 2:=rfl
  refine WP.loop (WP.has hE (zg rfl (ae.aR rfl rfl rfl (af rfl rfl aX) (by simp; omega) ?_)))
  refine zv (zw (zi rfl (WP.skip (zw (WP.block (zg rfl (zm rfl (za rfl (zv (zg rfl (zl rfl (by exact s.dF (k:=1) rfl ew cF) ?_)))))))))))
  refine zm rfl (ae.call rfl rfl rfl rfl rfl rfl rfl (Lm (i:=i) hT s (k:=2) rfl hX hl (by omega)) ?_)
  rintro r h' ⟨rfl,s⟩
  refine zm rfl (ze rfl (ze rfl (za rfl (za rfl (zv (zw (zg rfl (zm rfl (zm rfl ?_)))))))))
  refine ae.dh rfl rfl rfl (af rfl rfl aX) ?_ ?_
  ·intro hq
   have hq:fS l i<low:=by simp at hq; omega
   refine zm rfl (zx rfl (zx rfl (zx rfl (zx rfl (zq rfl (zv (zi rfl (zg rfl (za rfl (zv (WP.ret ?_)))))))))))
   refine J ?_ _ _ rfl s.drop.drop
   rw [cellsL,if_pos (.inl hq)]
  ·intro hq
   have hq:low≤fS l i:=by simp at hq; omega
   refine zm rfl (zm rfl (zm rfl (zb rfl (by exact bl (aF (by omega) (by omega))) ?_)))
   refine ae.dh rfl rfl rfl (af rfl rfl dS) ?_ ?_
   ·intro I
    have I:512<fS l i+iz l i:=by simp at I; omega
    refine zp rfl (zv (zi rfl (zg rfl (za rfl (zv (WP.ret ?_))))))
    refine J ?_ _ _ rfl s.drop.drop
    rw [cellsL,if_pos (.inr I)]
   ·intro I
    have I:fS l i+iz l i≤512:=by simp at I; omega
    refine zp rfl (zv (zj rfl (WP.skip (zg rfl (zm rfl (za rfl (zv (WP.block ?_))))))))
    have e:cellsL l low (m+1) i t=(match markL (iz l i) (fS l i) t with | none=>false | some t'=>cellsL l low m (i+1) t'):=by rw [cellsL,if_neg (by omega)]
    rw [e] at J hx
    refine D4 I (iz l i) (fS l i) t _ _ _ rfl ht s ⟨rfl,rfl,rfl,rfl,rfl,rfl,rfl,rfl,rfl,trivial⟩ (fun hm U h' h2 s' => ?_) (fun t' U h' hm fu s' => ?_)
    ·rw [hm] at J
     exact J rfl _ _ h2 s'.drop
    ·rw [hm] at J hx
     refine WP.has fu (zr rfl (zb rfl (by exact bl (aF (by omega) (by omega))) ?_))
     refine zm rfl (zv ?_)
     exact ih (i+1) t' h' _ Q (by omega) (by rw [xP _ _ _ _ hm,ht]) s' ⟨rfl,rfl,rfl,rfl,rfl,rfl,trivial⟩ J hx
theorem CQ (hT:W told)(s:Sat h (X::S))(hX:bU X (bZ v l))(iq:l.length<9223372036854775808):
  Call ⟨Tryz.prog,told⟩ 43 [v] h fun r h'=>r=.bool (bu l)∧Sat h' (X::S):=by
 have hv:=s.ax (k:=0) rfl hX
 refine Call.of_wp (hT.free _ rfl) Tryz.func43 rfl rfl (zg rfl (za rfl (zv (zw (zg rfl (zm rfl (zo rfl (aL rfl rfl rfl (by exact aG Tryz.underlying32 (s.ax (k:=0) rfl hX))) ?_)))))))
 refine ae.dh rfl rfl rfl (af rfl rfl aN) ?_ ?_
 ·intro hq
  have hq:l.length≠512:=by simp at hq; omega
  refine zm rfl (zx rfl (zx rfl (zx rfl (zx rfl (zq rfl (zv (zi rfl (zg rfl (za rfl (zv ?_))))))))))
  refine WP.ret ⟨trivial,_,rfl,?_⟩
  exact ⟨by rw [bu,decide_eq_false hq,Bool.false_and],s⟩
 ·intro hq
  have hq:l.length=512:=by simp at hq; omega
  have hb:l[13]?=some (l[13]'(by omega)):=List.getElem?_eq_getElem _
  generalize uX:(l[13]'(by omega))=b at hb
  have pz:l.getD 13 0=b:=by rw [List.getD_eq_getElem?_getD,hb]; rfl
  obtain ⟨id,off,e1,e2⟩:=eS hv hb
  refine zm rfl (zm rfl (zo rfl (cH (r:=.ptr id off) rfl rfl e1) (zl rfl e2 ?_)))
  refine ae.dh rfl rfl rfl (af rfl rfl aN) ?_ ?_
  ·intro I
   have I:b≠0:=by simp at I; omega
   refine zp rfl (zv (zi rfl (zg rfl (za rfl (zv ?_)))))
   refine WP.ret ⟨trivial,_,rfl,?_⟩
   exact ⟨by rw [bu,decide_eq_true hq,pz,decide_eq_false I,Bool.false_and,Bool.and_false],s⟩
  ·intro I
   have I:b=0:=by simp at I; omega
   obtain ⟨pi,po,pc,rfl⟩:=gX hv (by omega)
   refine zp rfl (zv (zj rfl (WP.skip (zg rfl (zm rfl (zo rfl (bW rfl (by rw [vx]; rfl)) ?_))))))
   refine ae.bO s rfl rfl rfl (bK ke) (fun p3 h s => ?_)
   dsimp only [V.cells,List.length_cons,List.length_nil,Nat.reduceAdd] at s
   refine ae.bn rfl rfl rfl rfl rfl (by exact s.eN (j:=0) rfl cF rfl rfl) (fun h s => ?_)
   dsimp only [V.cells,List.take,List.length_cons,List.length_nil,Nat.reduceAdd,List.drop,List.cons_append,List.nil_append,setA] at s
   refine zv (zw ?_)
   have s0:=s
   refine WP.drawn [none,none,some (0,2),none,none,none] rfl (by kernel_rfl) (by kernel_rfl) ?_
   refine zL rfl (by exact s.dF (k:=0) rfl ew cF) ?_
   refine au.any rfl rfl rfl rfl (OpR.call rfl rfl rfl rfl (Iu hT s (k:=1) rfl hX hq)) ?_
   rintro r h' ⟨rfl,s⟩
   have s1:=s
   refine zL rfl (by exact s.dF (k:=0) rfl ew cF) ?_
   refine au.any rfl rfl rfl rfl (OpR.call rfl rfl rfl rfl (Nw hT s (k:=1) rfl hX hq)) ?_
   rintro r h' ⟨rfl,s⟩
   refine zA rfl (zA rfl ?_)
   refine au.nil ⟨⟨trivial,trivial,cR (.inr ⟨rfl,⟨_,aI rfl (by exact s0.dF (k:=0) rfl ew cF)⟩,aU _ rfl⟩) (.inr ⟨rfl,⟨_,aI rfl (by exact s1.dF (k:=0) rfl ew cF)⟩,aU _ rfl⟩),trivial,trivial,trivial,trivial⟩,?_⟩
   have tI:=lu (l:=l) (a:=14) (z:=2) hv.1
   have tJ:=lu (l:=l) (a:=16) (z:=2) hv.1
   have ec:gy l=dm l 14 2:=rfl
   have el:fh l=dm l 16 2:=rfl
   refine zw (zg rfl (zm rfl (zb rfl (by exact uk (aF (by omega) (by omega))) ?_)))
   refine zb rfl (by exact bl (aF (by omega) (by omega))) ?_
   refine zm rfl ?_
   refine ae.dh rfl rfl rfl (af rfl rfl dS) ?_ ?_
   ·intro J
    have J:fh l<26+4*gy l:=by simp at J; omega
    refine zm rfl (zx rfl (zx rfl (zq rfl (zv (zi rfl (zg rfl (za rfl (zv ?_))))))))
    refine WP.ret ⟨trivial,_,rfl,?_⟩
    exact ⟨by rw [bu,decide_eq_true hq,pz,decide_eq_true I,decide_eq_false (by omega:¬(26+4*gy l≤fh l∧fh l≤512))]; rfl,s.drop⟩
   ·intro J
    have J:26+4*gy l≤fh l:=by simp at J; omega
    refine zm rfl (zm rfl ?_)
    refine ae.dh rfl rfl rfl (af rfl rfl dS) ?_ ?_
    ·intro U
     have U:512<fh l:=by simp at U; omega
     refine zp rfl (zv (zi rfl (zg rfl (za rfl (zv ?_)))))
     refine WP.ret ⟨trivial,_,rfl,?_⟩
     exact ⟨by rw [bu,decide_eq_true hq,pz,decide_eq_true I,decide_eq_false (by omega:¬(26+4*gy l≤fh l∧fh l≤512))]; rfl,s.drop⟩
    ·intro U
     have U:fh l≤512:=by simp at U; omega
     refine zp rfl (zv (zj rfl (WP.skip (zg rfl (ae.bO s rfl rfl rfl (bK Iv) ?_)))))
     intro p6 h s
     have qZ:(lJ (List.replicate 512 false)).length=512:=by rw [lJ,List.length_map,List.length_replicate]
     dsimp only [V.cells] at s
     rw [qZ] at s
     refine zv (zw (zg rfl (zm rfl (zm rfl (zv (WP.block ?_))))))
     have hg:bu l=cellsL l (fh l) (gy l) 0 (List.replicate 512 false):=by
      rw [bu,decide_eq_true hq,pz,decide_eq_true I,decide_eq_true (⟨J,U⟩:26+4*gy l≤fh l∧fh l≤512)]; rfl
     refine D5 hT hX hq hv.1 rfl rfl rfl J U (gy l) 0 (List.replicate 512 false) _ _ _ (by omega) List.length_replicate s ⟨rfl,rfl,rfl,rfl,rfl,rfl,trivial⟩ (fun hc E' h' h2 s' => ?_) (fun hc E' h' s' => ?_)
     ·rw [hg,hc]
      exact ⟨trivial,_,oO h2,rfl,s'⟩
     ·rw [hg,hc]
      refine WP.has (F:=[]) trivial (zg rfl (za rfl (zv ?_)))
      refine WP.ret ⟨trivial,_,rfl,?_⟩
      exact ⟨rfl,s'⟩
end
end Go.Proofs.YtconhghphklfjaaGreat.Am
