/- After a crash the log has the records of the groups that are there and no others, with their numbers and data; the conditions are those of the given statement, for arguments that a machine can hold. Part 28 of 54. -/
import Derived.Test.YtconhghphklfjaaGreatL27
namespace Go.Proofs.YtconhghphklfjaaGreat.Am
open Go
section
variable {told:Nat→Option (List V→H→Option (V×H))} {h:H} {S:List ah} {X:ah} {k:Nat} {v:V} {l:List Nat}
theorem Aq (I:W told){n z:Nat}(s:Sat h (a_ v l::S))(J:z≤8)(U:l.length+z≤140737488355328):
  Call ⟨Tryz.prog,told⟩ 67 [v,.int .i64 (z:Int),.int .u64 (n:Int)] h fun r h'=>Sat h' (a_ r (l++le z n)::S) :=
 (F9 I.Kf s.wf (s.buf (k:=0) rfl) J U).mono fun _ _ ⟨h1,h2,h3⟩=>s.sH h2 h1 h3
theorem Gf (hT:W told){a z n:Nat}(s:Sat h (a_ v l::S))(hz:1≤z)(Ap:z≤8)(U:a+z≤l.length)(iq:l.length≤65536):
  Call ⟨Tryz.prog,told⟩ 130 [.agg [v],.int .i64 (a:Int),.int .i64 (z:Int),.int .u64 (n:Int)] h fun r h'=>r=.aW []∧Sat h' (a_ v (cI l a (le z n))::S):=by
 obtain ⟨I,_,cap,_,rfl,_⟩:=s.gJ (by omega)
 refine Call.of_wp (hT.free _ rfl) Tryz.func130 rfl rfl (zg rfl ?_)
 refine ae.bO s rfl rfl rfl (ff rfl rfl) (fun p4 h s => ?_)
 dsimp only [V.cells,List.length_cons,List.length_nil,Nat.reduceAdd] at s
 refine zv ?_
 have s0:=s
 refine WP.drawn [some (0,2),some (0,2),some (0,2),some (0,2),some (0,2),some (0,2),some (0,2),none,none,none,none] rfl (by kernel_rfl) (by kernel_rfl) ?_
 refine zF rfl (kC _ _) (zL rfl (by exact s.ld (k:=0) rfl bg rfl) ?_)
 refine zM rfl (zM rfl (zM rfl (zO rfl (af rfl rfl (by exact bl (aF (by omega) (by omega)))) ?_)))
 have ez:((a:Int)+(z:Int)).toNat=a+z:=by omega
 have ea:((a:Int)).toNat=a:=by omega
 refine zO rfl (bM (p:=some (.int .i64 (a:Int))) (q:=some (.int .i64 ((a:Int)+(z:Int)))) (m:=none) (p':=some a) (q':=some (a+z)) (m':=none) rfl rfl rfl rfl (by rw [dN (by omega),ea]) (by rw [dN (by omega),ez]) rfl (fq (s.buf (k:=1) rfl).view (by omega) U).1) ?_
 refine zM rfl (zM rfl (au.any rfl rfl rfl rfl (OpR.call rfl rfl rfl rfl (Aq hT s.F2 Ap (by simp; omega))) ?_))
 intro u h s
 have s:=s.aa [1,1,0]
 dsimp only [List.nil_append,bringA,getA,ai] at s
 have s1:=s
 refine au.any rfl rfl rfl rfl (OpR.O_ rfl (s.aa [1,1]) (bk _ _) rfl rfl rfl rfl (by omega) U (by simp [cM]; omega)) ?_
 intro r h s
 have hs:∃q c,slR (V.sl I 0 l.length cap) a (a+z)=.sl I q (a+z-a) c:=by
  cases cap with
  | exact c=>exact ⟨_,_,rfl⟩
  | rest e alt=>exact ⟨_,_,rfl⟩
 obtain ⟨q,c,hs⟩:=hs
 have J:(slR (V.sl I 0 l.length cap) a (a+z)).beq (slR (V.sl I 0 l.length cap) a (a+z))=true:=by rw [hs]; exact vm _ _ _ _
 refine au.nil ⟨⟨fun _ _=>.inr ⟨rfl,⟨_,iO rfl (kC _ _)⟩,aU _ rfl⟩,cR (.inr ⟨rfl,⟨_,aI rfl (by exact s0.ld (k:=0) rfl bg rfl)⟩,aU _ rfl⟩) (.inr ⟨rfl,⟨_,aI rfl (by exact s1.ld (k:=0) rfl bg rfl)⟩,aU _ rfl⟩),fun _ _=>.inr ⟨rfl,⟨_,aV rfl⟩,aU _ rfl⟩,fun _ _=>.inr ⟨rfl,⟨_,aV rfl⟩,aU _ rfl⟩,fun _ _=>.inr ⟨rfl,⟨_,aV rfl⟩,aU _ rfl⟩,fun _ _=>.inr ⟨rfl,⟨_,af rfl rfl (by exact bl (aF (by omega) (by omega)))⟩,aU _ rfl⟩,cR (.inr ⟨rfl,⟨_,bM (p:=some (.int .i64 (a:Int))) (q:=some (.int .i64 ((a:Int)+(z:Int)))) (m:=none) (p':=some a) (q':=some (a+z)) (m':=none) rfl rfl rfl rfl (by rw [dN (by omega),ea]) (by rw [dN (by omega),ez]) rfl (fq (s0.buf (k:=1) rfl).view (by omega) U).1⟩,J⟩) (.inr ⟨rfl,⟨_,bM (p:=some (.int .i64 (a:Int))) (q:=some (.int .i64 ((a:Int)+(z:Int)))) (m:=none) (p':=some a) (q':=some (a+z)) (m':=none) rfl rfl rfl rfl (by rw [dN (by omega),ea]) (by rw [dN (by omega),ez]) rfl (fq (s1.buf (k:=1) rfl).view (by omega) U).1⟩,J⟩),trivial,trivial,trivial,trivial,trivial⟩,?_⟩
 refine ⟨trivial,_,rfl,rfl,?_⟩
 rw [show a+z-a=z by omega,List.take_of_length_le (by rw [cM]; omega)] at s
 exact (s.del 1).del 1
theorem vG (U:W told)(s:Sat h (X::S))(hX:bU X (bZ v l))(J:l.length<9223372036854775808):
  Call ⟨Tryz.prog,told⟩ 82 [v] h fun r h'=>Sat h' (X::S)∧((bu l=true∧r=.aW [.agg [v],.int .i64 0])∨(bu l=false∧r=.aW [.agg [.aH],.int .i64 4])):=by
 have hv:=s.ax (k:=0) rfl hX
 refine Call.of_wp (U.free _ rfl) Tryz.func82 rfl rfl (zg rfl ?_)
 refine ae.bO s rfl rfl rfl (bK ke) (fun p2 h s => ?_)
 dsimp only [V.cells,List.length_cons,List.length_nil,Nat.reduceAdd] at s
 refine za rfl (zv (zw (zg rfl (zm rfl (ae.call rfl rfl rfl rfl rfl rfl rfl (CQ U (s.aa [1]) hX J) ?_)))))
 rintro r h' ⟨rfl,s⟩
 dsimp only [ai,bringA] at s
 cases hg:bu l with
 | true =>
  have I:1≤l.length:=by
   have:l.length=512:=by simp only [bu,Bool.and_eq_true,decide_eq_true_eq] at hg; exact hg.1
   omega
  obtain ⟨pi,po,pc,rfl⟩:=gX hv I
  refine zo rfl (dA rfl rfl) (zv (zj rfl (WP.skip (zg rfl (zm rfl (zo rfl (bW rfl (by rw [vx]; rfl)) ?_))))))
  refine ae.bn rfl rfl rfl rfl rfl (by exact s.eN (j:=1) rfl cF rfl rfl) (fun h s => ?_)
  dsimp only [V.cells,List.take,List.length_cons,List.length_nil,Nat.reduceAdd,List.drop,List.cons_append,List.nil_append,setA] at s
  refine za rfl (zv ?_)
  refine WP.ret ⟨trivial,_,yM rfl (s.dF (k:=1) rfl ew cF) rfl,?_⟩
  exact ⟨s.del 1,.inl ⟨rfl,rfl⟩⟩
 | false =>
  refine zo rfl (dA rfl rfl) (zv (zi rfl (zg rfl (zo rfl (bW rfl (by rw [vx]; rfl)) ?_))))
  refine ae.bn rfl rfl rfl rfl rfl (by exact s.eN (j:=1) rfl cF rfl rfl) (fun h s => ?_)
  dsimp only [V.cells,setA] at s
  refine za rfl (zv ?_)
  refine WP.ret ⟨trivial,_,yM rfl (s.dF (k:=1) rfl ew cF) rfl,?_⟩
  exact ⟨s.del 1,.inr ⟨rfl,rfl⟩⟩
theorem fJ (I:bu l=true): l.length=512:=by simp only [bu,Bool.and_eq_true,decide_eq_true_eq] at I; exact I.1
theorem Gg (hT:W told)(s:Sat h (X::S))(J:bU X (bZ v l))(U:l.length<9223372036854775808):
  Call ⟨Tryz.prog,told⟩ 129 [v] h fun r h'=>(bu l=true∧∃u,r=.aW [.agg [u],.int .i64 0]∧Sat h' (a_ u l::X::S))∨(bu l=false∧r=.aW [.agg [.aH],.int .i64 4]∧Sat h' (X::S)):=by
 have hv:=s.ax (k:=0) rfl J
 refine Call.of_wp (hT.free _ rfl) Tryz.func129 rfl rfl (zg rfl ?_)
 refine ae.bO s rfl rfl rfl (bK ke) (fun p2 h s => ?_)
 dsimp only [V.cells,List.length_cons,List.length_nil,Nat.reduceAdd] at s
 refine za rfl (zv (zg rfl (zm rfl (ae.call rfl rfl rfl rfl rfl rfl rfl (vG hT (s.aa [1]) J U) ?_))))
 rintro r h' ⟨s,(⟨I,rfl⟩ | ⟨I,rfl⟩)⟩
 dsimp only [ai,bringA] at s
 ·have RT:=fJ I
  obtain ⟨pi,po,pc,rfl⟩:=gX hv (by omega)
  refine zm rfl (ze rfl (ze rfl ?_))
  refine ae.bO s rfl rfl rfl (bK ke) (fun p4 h s => ?_)
  dsimp only [V.cells,List.length_cons,List.length_nil,Nat.reduceAdd] at s
  refine ae.bn rfl rfl rfl rfl rfl (by exact s.eN (j:=0) rfl cF rfl rfl) (fun h s => ?_)
  dsimp only [setA] at s
  refine za rfl (zv (zw (zg rfl (zm rfl (ae.aE rfl rfl rfl (af rfl rfl aN) (rfl) (zv (zj rfl (WP.skip (zw ?_)))))))))
  have s0:=s
  refine WP.drawn [none,none,none,none,some (0,2),some (0,2),none,none,none,none] rfl (by kernel_rfl) (by kernel_rfl) ?_
  refine zF rfl (kC _ _) (zL rfl (by exact s.ld (k:=0) rfl bg rfl) ?_)
  refine zO rfl (aL rfl rfl rfl (by exact kF rfl Tryz.underlying32)) ?_
  refine au.any rfl rfl rfl rfl (OpR.o_ rfl s rfl rfl rfl rfl (by omega)) ?_
  intro u h s
  have s:=s.aa [1,1,1,0]
  dsimp only [bringA,getA,ai] at s
  have s1:=s
  refine zF rfl (kC _ _) (zL rfl (by exact s.ld (k:=0) rfl bg rfl) ?_)
  refine au.any rfl rfl rfl rfl (OpR.mI rfl (s.aa [3,1]) J rfl rfl rfl rfl (by simp; omega)) ?_
  intro u2 h s
  rw [List.nil_append] at s
  obtain ⟨qM,_,cap,_,rfl,_⟩:=s.gJ (by omega)
  dsimp only [ai,bringA] at s
  have s2:=s
  refine zO rfl (bW rfl (by rw [vx]; rfl)) ?_
  refine au.fI rfl rfl rfl (OpR.bn rfl rfl rfl (s.eN (j:=3) rfl cF rfl rfl)) ?_
  rintro w h ⟨rfl,s⟩
  dsimp only [V.cells,List.take,List.length_cons,List.length_nil,Nat.reduceAdd,List.drop,List.cons_append,List.nil_append,setA] at s
  have s3:=s
  refine zA rfl ?_
  refine au.nil ⟨⟨trivial,trivial,trivial,trivial,fun _ _=>.inr ⟨rfl,⟨_,iO rfl (kC _ _)⟩,aU _ rfl⟩,cR (.inr ⟨rfl,⟨_,aI rfl (by exact s0.ld (k:=0) rfl bg rfl)⟩,aU _ rfl⟩) (.inr ⟨rfl,⟨_,aI rfl (by exact s1.ld (k:=0) rfl bg rfl)⟩,aU _ rfl⟩),trivial,trivial,trivial,trivial,trivial⟩,?_⟩
  refine WP.ret ⟨trivial,_,yM rfl (s.dF (k:=3) rfl ew cF) rfl,?_⟩
  exact .inl ⟨I,_,rfl,(s.del 2).del 2⟩
 ·skip
  refine zm rfl (ze rfl (ze rfl ?_))
  refine ae.bO s rfl rfl rfl (bK ke) (fun p4 h s => ?_)
  dsimp only [V.cells,List.length_cons,List.length_nil,Nat.reduceAdd,ai,bringA] at s
  refine ae.bn rfl rfl rfl rfl rfl (by exact s.eN (j:=0) rfl cF rfl rfl) (fun h s => ?_)
  dsimp only [setA] at s
  refine za rfl (zv (zw (zg rfl (zm rfl (ae.aR rfl rfl rfl (af rfl rfl aN) (rfl) (zv (zi rfl (zg rfl (zo rfl (bW rfl (by rw [vx]; rfl)) ?_)))))))))
  refine zm rfl ?_
  refine ae.bn rfl rfl rfl rfl rfl (by exact s.eN (j:=2) rfl cF rfl rfl) (fun h s => ?_)
  dsimp only [V.cells,setA] at s
  refine za rfl (zv ?_)
  refine WP.ret ⟨trivial,_,yM rfl (s.dF (k:=2) rfl ew cF) rfl,?_⟩
  exact .inr ⟨I,rfl,(s.del 2).del 0⟩
def jQ (l:List Nat)(n:Nat): List Nat:=cI l 4 (le 8 n)
def cj (l:List Nat)(n:Nat): List Nat:=cI (jQ l n) 0 (le 4 (rS 0 ((jQ l n).drop 4)))
theorem qg {n:Nat}(I:l.length=512): (jQ l n).length=512:=by rw [jQ,fO (by rw [cM]; omega),I]
theorem CR (I:W told){n:Nat}(s:Sat h (X::S))(hX:bU X (bZ v l))(iq:l.length<9223372036854775808):
  Call ⟨Tryz.prog,told⟩ 98 [v,.int .u64 (n:Int)] h fun r h'=>(bu l=true∧∃u,r=.aW [u,.int .i64 0]∧Sat h' (a_ u (cj l n)::X::S))∨(bu l=false∧r=.aW [.aH,.int .i64 4]∧Sat h' (X::S)):=by
 refine Call.of_wp (I.free _ rfl) Tryz.func98 rfl rfl (zg rfl (za rfl (za rfl (zv (zg rfl (zm rfl (ae.call rfl rfl rfl rfl rfl rfl rfl (Gg I s hX iq) ?_)))))))
 rintro r h' (⟨U,u,rfl,s⟩ | ⟨U,rfl,s⟩)
 ·have J:=fJ U
  have vH:(jQ l n).length=512:=qg J
  obtain ⟨qM,_,cap,_,rfl,_⟩:=s.gJ (by omega)
  refine zm rfl (ze rfl (ze rfl ?_))
  refine ae.bO s rfl rfl rfl (bK ke) (fun p6 h s => ?_)
  dsimp only [V.cells,List.length_cons,List.length_nil,Nat.reduceAdd] at s
  refine ae.bn rfl rfl rfl rfl rfl (by exact s.eN (j:=0) rfl cF rfl rfl) (fun h s => ?_)
  dsimp only [setA] at s
  refine za rfl (zv (zw (zg rfl (zm rfl (ae.aE rfl rfl rfl (af rfl rfl aN) (rfl) (zv (zj rfl (WP.skip (zg rfl (zl rfl (by exact s.dF (k:=0) rfl ew cF) ?_))))))))))
  refine zm rfl (ae.call rfl rfl rfl rfl rfl rfl rfl (Gf (a:=4) (z:=8) I (s.aa [1]) (by decide) (by decide) (by omega) (by omega)) ?_)
  rintro r h' ⟨rfl,s⟩
  have s:=s.aa [1,0]
  have s:Sat _ (_::a_ _ (jQ l n)::_):=s
  dsimp only [ai,bringA] at s
  refine zv (zw ?_)
  have s0:=s
  have Gh:=(s.buf (k:=1) rfl).view.1
  have ec:(jQ l n).length=l.length:=by omega
  rw [←ec] at *
  refine WP.drawn [some (0,2),none,none,none,none,none,none] rfl (by kernel_rfl) (by kernel_rfl) ?_
  refine zL rfl (by exact s.dF (k:=0) rfl ew cF) ?_
  refine zF rfl (kC _ _) (zL rfl (by exact s.ld (k:=0) rfl bg rfl) ?_)
  refine zO rfl (bM (p:=some (.int .i64 4)) (q:=none) (m:=none) (p':=some 4) (q':=none) (m':=none) rfl rfl rfl rfl rfl rfl rfl (cT (s.buf (k:=1) rfl).view (a:=4) (by omega)).1) ?_
  refine au.any rfl rfl rfl rfl (OpR.call rfl rfl rfl rfl (Kg I s (k:=1) rfl (lU (bk _ _) (a:=4) (by omega)) (by simp; omega))) ?_
  rintro r h' ⟨rfl,rfl⟩
  have s1:=s
  have hc:=uu (s:=0) (l:=(jQ l n).drop 4) (by decide) (fun x hx=>Gh x (List.mem_of_mem_drop hx))
  refine au.op rfl rfl rfl (by simp only [isEff,Tryz.underlying35]) (bz rfl (by exact gC Tryz.underlying155 Tryz.underlying35 (dM (by omega) (by omega)))) ?_
  refine au.any rfl rfl rfl rfl (OpR.call rfl rfl rfl rfl (Gf (a:=0) (z:=4) I (s.aa [1]) (by decide) (by decide) (by omega) (by omega))) ?_
  rintro r h ⟨rfl,s⟩
  have s:=s.aa [1,0]
  dsimp only [ai,bringA,getA] at s
  refine au.nil ⟨⟨cR (.inr ⟨rfl,⟨_,aI rfl (by exact s0.dF (k:=0) rfl ew cF)⟩,aU _ rfl⟩) (.inr ⟨rfl,⟨_,aI rfl (by exact s1.dF (k:=0) rfl ew cF)⟩,aU _ rfl⟩),trivial,trivial,trivial,trivial,trivial,trivial,trivial⟩,?_⟩
  refine zg rfl (zf rfl (kC _ _) (zl rfl (by exact s.ld (k:=0) rfl bg rfl) ?_))
  refine za rfl (za rfl (zv ?_))
  refine WP.ret ⟨trivial,_,rfl,?_⟩
  exact .inl ⟨U,_,rfl,s.drop⟩
 ·skip
  refine zm rfl (ze rfl (ze rfl ?_))
  refine ae.bO s rfl rfl rfl (bK ke) (fun p6 h s => ?_)
  dsimp only [V.cells,List.length_cons,List.length_nil,Nat.reduceAdd] at s
  refine ae.bn rfl rfl rfl rfl rfl (by exact s.eN (j:=0) rfl cF rfl rfl) (fun h s => ?_)
  dsimp only [setA] at s
  refine za rfl (zv (zw (zg rfl (zm rfl (ae.aR rfl rfl rfl (af rfl rfl aN) (rfl) (zv (zi rfl (zg rfl (zm rfl (za rfl (za rfl (zv ?_))))))))))))
  refine WP.ret ⟨trivial,_,rfl,?_⟩
  exact .inr ⟨U,rfl,s.drop⟩
theorem RU {P:Program}{E:List (Nat×V)}{d:TypeId}{x:Operand}{r:V}(I:lookO E x=some v)(J:arrPtrV P d v=some r): opE P E h (.sliceToArrayPointer d x)=some (r,h):=by simp only [opE,gn,I,J,aB]
theorem Ln {P:Program}{t:TypeId}{id off n:Nat}{cap:Cap}(I:View h (.sl id off n cap) l)(J:bx P t=some true)(hs:aY P t=some l.length): loadV P h t (.ptr id off)=some (.agg (ofBytes l)):=by
 have:=I.rdN
 obtain ⟨rfl,U⟩:=this
 simp only [loadV,J,hs,U,Option.map_some]
theorem yB : ∀(l m:List Nat),l.length=m.length→intsBeq .u8 (ofBytes l) (ofBytes m)=some (decide (l=m)):=by
 intro l
 induction l with
 | nil=>intro m hm; cases m with
  | nil=>rfl
  | cons x m=>simp at hm
 | cons x l J=>intro m hm; cases m with
  | nil=>simp at hm
  | cons y m =>
   have hi:=J m (by simpa using hm)
   simp only [ofBytes,List.map_cons] at hi ⊢
   simp only [intsBeq,ikBeq,Bool.and_self,cond_true,hi,jH]
   by_cases I:x=y
   ·subst I; simp
   ·have:¬ ((x:Int)=(y:Int)):=by omega
    simp [this,I]
theorem Iy : buildV Tryz.prog 151 []=some (.agg (ofBytes (List.replicate 512 0))):=by kernel_rfl
theorem Kh {P:Program}{t e:TypeId}{n:Nat}{x y:Operand}{m:List Nat}(hu:P.underlying t=some (.array n e))(he:P.underlying e=some (.int .u8))(hs:aY P e=some 1)(I:l.length=n)(hm:m.length=n):
  binV P h .eql t x y (.agg (ofBytes l)) (.agg (ofBytes m))=some (.bool (decide (l=m))):=by
 simp only [binV,eqArr,hu,he,hs,cu,I,hm,Nat.beq_refl,Bool.and_self,cond_true]
 rw [yB l m (by omega)]
 rfl
def dQ (l:List Nat): Int:=if l=List.replicate 512 0 then 0 else if bu l=false then 4 else if dm l 0 4≠rS 0 (l.drop 4) then 8 else 0
theorem uw (hT:W told)(s:Sat h (X::S))(J:bU X (bZ v l))(iq:l.length<9223372036854775808):
  Call ⟨Tryz.prog,told⟩ 46 [v] h fun r h'=>r=.int .i64 (dQ l)∧Sat h' (X::S):=by
 have hv:=s.ax (k:=0) rfl J
 have hz:(List.replicate 512 0).length=512:=List.length_replicate
 -- what follows when the page is no page of noughts
 refine Call.of_wp (hT.free _ rfl) Tryz.func46 rfl rfl (zg rfl (za rfl (zv (zw (zg rfl (zm rfl (zo rfl (aL rfl rfl rfl (by exact aG Tryz.underlying32 (s.ax (k:=0) rfl J))) ?_)))))))
 refine ae.dh rfl rfl rfl (af rfl rfl cS) ?_ ?_
 ·intro U
  have U:l.length=512:=by simp at U; omega
  obtain ⟨pi,po,pc,rfl⟩:=gX hv (by omega)
  refine zm rfl (zm rfl (zo rfl (RU (r:=.ptr pi po) rfl (by simp only [arrPtrV,Tryz.underlying151]; rw [U]; rfl)) ?_))
  refine zl rfl (Ln hv O0 (by rw [U]; exact OZ)) ?_
  refine zo rfl (bW rfl Iy) ?_
  by_cases hn:l=List.replicate 512 0
  ·skip
   refine ae.aR rfl rfl rfl (af rfl rfl (Kh Tryz.underlying151 Tryz.underlying5 Qe U hz)) (decide_eq_true hn) (zq rfl (zv (zi rfl (zg rfl (za rfl (zv ?_))))))
   refine WP.ret ⟨trivial,_,rfl,?_⟩
   exact ⟨by rw [dQ,if_pos hn],s⟩
  ·skip
   refine ae.aE rfl rfl rfl (af rfl rfl (Kh Tryz.underlying151 Tryz.underlying5 Qe U hz)) (decide_eq_false hn) (zq rfl (zv (zj rfl (WP.skip (zg rfl (zm rfl (ae.call rfl rfl rfl rfl rfl rfl rfl (vG hT s J iq) ?_)))))))
   rintro r h' ⟨s,(⟨hg,rfl⟩ | ⟨hg,rfl⟩)⟩
   ·refine ae.op rfl rfl rfl (aV rfl) ?_
    refine ze rfl (ze rfl ?_)
    refine ae.bO s rfl rfl rfl (bK ke) (fun p3 h s => ?_)
    dsimp only [V.cells,List.length_cons,List.length_nil,Nat.reduceAdd] at s
    refine ae.bn rfl rfl rfl rfl rfl (by exact s.eN (j:=0) rfl cF rfl rfl) (fun h s => ?_)
    dsimp only [setA] at s
    refine za rfl (zv (zw (WP.block (zg rfl (zm rfl (ae.aE rfl rfl rfl (af rfl rfl aN) (rfl) (za rfl (zv (zj rfl (zw ?_))))))))))
    have s0:=s
    refine WP.drawn [none,none,some (0,2),some (0,2),none,none,none,none] rfl (by kernel_rfl) (by kernel_rfl) ?_
    refine zL rfl (by exact s.dF (k:=0) rfl ew cF) ?_
    refine au.any rfl rfl rfl rfl (OpR.call rfl rfl rfl rfl (nX hT s (k:=1) rfl J (by decide) (by decide) (by decide) (by omega) (by omega))) ?_
    rintro r h' ⟨rfl,s⟩
    have s1:=s
    refine zM rfl (zO rfl (bM (p:=some (.int .i64 4)) (q:=none) (m:=none) (p':=some 4) (q':=none) (m':=none) rfl rfl rfl rfl rfl rfl rfl (cT (s.ax (k:=1) rfl J) (a:=4) (by omega)).1) ?_)
    refine au.any rfl rfl rfl rfl (OpR.call rfl rfl rfl rfl (Kg hT s (k:=1) rfl (lU J (a:=4) (by omega)) (by simp; omega))) ?_
    rintro r h' ⟨rfl,rfl⟩
    have hc:=uu (s:=0) (l:=l.drop 4) (by decide) (fun x hx=>hv.1 x (List.mem_of_mem_drop hx))
    have hs:∃q c,slR (V.sl pi po l.length pc) 4 l.length=.sl pi q (l.length-4) c:=by
     cases pc with
     | exact c=>exact ⟨_,_,rfl⟩
     | rest e alt=>exact ⟨_,_,rfl⟩
    obtain ⟨q,c,hs⟩:=hs
    have xQ:(slR (V.sl pi po l.length pc) 4 l.length).beq (slR (V.sl pi po l.length pc) 4 l.length)=true:=by rw [hs]; exact vm _ _ _ _
    refine au.op rfl rfl rfl (by simp only [isEff,Tryz.underlying3]) (bz rfl (by exact gC Tryz.underlying155 Tryz.underlying3 (aF (by omega) (by omega)))) ?_
    by_cases I:dm l 0 4=rS 0 (l.drop 4)
    ·skip
     refine au.aE rfl rfl rfl rfl (af rfl rfl aN) (by simp; exact_mod_cast I) ?_
     refine zA rfl ?_
     refine au.nil ⟨⟨trivial,trivial,fun _ _=>.inr ⟨rfl,⟨_,aV rfl⟩,aU _ rfl⟩,cR (.inr ⟨rfl,⟨_,bM (p:=some (.int .i64 4)) (q:=none) (m:=none) (p':=some 4) (q':=none) (m':=none) rfl rfl rfl rfl rfl rfl rfl (cT (s0.ax (k:=1) rfl J) (a:=4) (by omega)).1⟩,xQ⟩) (.inr ⟨rfl,⟨_,bM (p:=some (.int .i64 4)) (q:=none) (m:=none) (p':=some 4) (q':=none) (m':=none) rfl rfl rfl rfl rfl rfl rfl (cT (s1.ax (k:=1) rfl J) (a:=4) (by omega)).1⟩,xQ⟩),trivial,trivial,trivial,trivial,trivial⟩,?_⟩
     refine zj rfl (WP.skip (zg rfl (za rfl (zv ?_))))
     refine WP.ret ⟨trivial,_,rfl,?_⟩
     exact ⟨by rw [dQ,if_neg hn,if_neg (by rw [hg]; decide),if_neg (by simpa using I)],s.drop⟩
    ·skip
     refine au.aR rfl rfl rfl rfl (af rfl rfl aN) (by simp; exact_mod_cast I) ?_
     refine zA rfl ?_
     refine au.nil ⟨⟨trivial,trivial,fun _ _=>.inr ⟨rfl,⟨_,aV rfl⟩,aU _ rfl⟩,cR (.inr ⟨rfl,⟨_,bM (p:=some (.int .i64 4)) (q:=none) (m:=none) (p':=some 4) (q':=none) (m':=none) rfl rfl rfl rfl rfl rfl rfl (cT (s0.ax (k:=1) rfl J) (a:=4) (by omega)).1⟩,xQ⟩) (.inr ⟨rfl,⟨_,bM (p:=some (.int .i64 4)) (q:=none) (m:=none) (p':=some 4) (q':=none) (m':=none) rfl rfl rfl rfl rfl rfl rfl (cT (s1.ax (k:=1) rfl J) (a:=4) (by omega)).1⟩,xQ⟩),trivial,trivial,trivial,trivial,trivial⟩,?_⟩
     refine zi rfl (zg rfl (za rfl (zv ?_)))
     refine WP.ret ⟨trivial,_,rfl,?_⟩
     exact ⟨by rw [dQ,if_neg hn,if_neg (by rw [hg]; decide),if_pos I],s.drop⟩
   ·skip
    refine zm rfl (ze rfl (ze rfl ?_))
    refine ae.bO s rfl rfl rfl (bK ke) (fun p3 h s => ?_)
    dsimp only [V.cells,List.length_cons,List.length_nil,Nat.reduceAdd] at s
    refine ae.bn rfl rfl rfl rfl rfl (by exact s.eN (j:=0) rfl cF rfl rfl) (fun h s => ?_)
    dsimp only [setA] at s
    refine za rfl (zv (zw (WP.block (zg rfl (zm rfl (ae.aR rfl rfl rfl (af rfl rfl aN) (rfl) (za rfl (zv (zi rfl (zg rfl (zm rfl (za rfl (zv ?_)))))))))))))
    refine WP.ret ⟨trivial,_,rfl,?_⟩
    exact ⟨by rw [dQ,if_neg hn,if_pos hg],s.drop⟩
 ·intro U
  have U:l.length≠512:=by simp at U; omega
  have hn:l≠List.replicate 512 0:=fun e=>U (by rw [e,hz])
  have hg:bu l=false:=by rw [bu,decide_eq_false U,Bool.false_and]
  refine zm rfl (zx rfl (zx rfl (zx rfl (zx rfl (zx rfl (zp rfl (zv (zj rfl (WP.skip (zg rfl (zm rfl (ae.call rfl rfl rfl rfl rfl rfl rfl (vG hT s J iq) ?_))))))))))))
  rintro r h' ⟨s,(⟨J8,rfl⟩ | ⟨_,rfl⟩)⟩
  ·rw [hg] at J8; cases J8
  ·refine ae.op rfl rfl rfl (aV rfl) ?_
   refine ze rfl (ze rfl ?_)
   refine ae.bO s rfl rfl rfl (bK ke) (fun p3 h s => ?_)
   dsimp only [V.cells,List.length_cons,List.length_nil,Nat.reduceAdd] at s
   refine ae.bn rfl rfl rfl rfl rfl (by exact s.eN (j:=0) rfl cF rfl rfl) (fun h s => ?_)
   dsimp only [setA] at s
   refine za rfl (zv (zw (WP.block (zg rfl (zm rfl (ae.aR rfl rfl rfl (af rfl rfl aN) (rfl) (za rfl (zv (zi rfl (zg rfl (zm rfl (za rfl (zv ?_)))))))))))))
   refine WP.ret ⟨trivial,_,rfl,?_⟩
   exact ⟨by rw [dQ,if_neg hn,if_pos hg],s.drop⟩
theorem mz {i b id off:Nat}(U:View h v l)(hb:l[i]?=some b)(he:indexAddrV Tryz.prog 32 v (.int .i64 (i:Int))=some (.ptr id off)): loadV Tryz.prog h 5 (.ptr id off)=some (.int .u8 (b:Int)):=by
 obtain ⟨I,off',J,e2⟩:=eS U hb
 rw [he] at J
 have e3:V.ptr id off=V.ptr I off':=Option.some.inj J
 rw [e3]
 exact e2
theorem Lo (hT:W told)(s:Sat h (X::S))(I:bU X (bZ v l))(iq:l.length<9223372036854775808):
  Call ⟨Tryz.prog,told⟩ 127 [v] h fun r h'=>Sat h' (X::S)∧((bu l=true∧r=.aW [.int .i64 (l.getD 12 0:Nat),.int .u64 (dm l 4 8),.int .i64 (dm l 18 4),.int .i64 (dm l 22 4),.int .i64 0]) ∨
   (bu l=false∧r=.aW [.int .i64 0,.int .u64 0,.int .i64 0,.int .i64 0,.int .i64 4])):=by
 have hv:=s.ax (k:=0) rfl I
 refine Call.of_wp (hT.free _ rfl) Tryz.func127 rfl rfl (zg rfl (za rfl (za rfl (za rfl (za rfl (za rfl (zv (zg rfl (zm rfl (ae.call rfl rfl rfl rfl rfl rfl rfl (vG hT s I iq) ?_))))))))))
 rintro r h' ⟨s,(⟨hg,rfl⟩ | ⟨hg,rfl⟩)⟩
 ·have hq:=fJ hg
  obtain ⟨pi,po,pc,rfl⟩:=gX hv (by omega)
  have J:l[12]?=some (l[12]'(by omega)):=List.getElem?_eq_getElem _
  generalize uX:(l[12]'(by omega))=b at J
  have zu:b<256:=hv.1 b (List.mem_of_getElem? J)
  have pz:l.getD 12 0=b:=by rw [List.getD_eq_getElem?_getD,J]; rfl
  rw [pz]
  refine zm rfl (ze rfl (ze rfl ?_))
  refine ae.bO s rfl rfl rfl (bK ke) (fun p7 h s => ?_)
  dsimp only [V.cells,List.length_cons,List.length_nil,Nat.reduceAdd] at s
  refine ae.bn rfl rfl rfl rfl rfl (by exact s.eN (j:=0) rfl cF rfl rfl) (fun h s => ?_)
  dsimp only [setA] at s
  refine za rfl (zv (zw (zg rfl (zm rfl (ae.aE rfl rfl rfl (af rfl rfl aN) (rfl) (zv (zj rfl (WP.skip (zw ?_)))))))))
  have s0:=s
  obtain ⟨id,off,U,e2⟩:=eS (s.ax (k:=1) rfl I) J
  refine WP.drawn [some (0,4),some (0,4),some (0,4),some (0,4),none,none,none,some (0,2),none,some (0,3),none,none,none,none,none,none] rfl (by kernel_rfl) (by kernel_rfl) ?_
  refine zM rfl (zO rfl (cH (r:=.ptr id off) rfl rfl U) (zL rfl (mz (s.ax (k:=1) rfl I) J U) (au.op rfl rfl rfl (by simp only [isEff,Tryz.underlying3]) (bz rfl (by exact gC Tryz.underlying5 Tryz.underlying3 (aF (by omega) (by omega)))) ?_)))
  refine zM rfl (zO rfl (bM (p:=some (.int .i64 4)) (q:=some (.int .i64 12)) (m:=none) (p':=some 4) (q':=some 12) (m':=none) rfl rfl rfl rfl rfl rfl rfl (fq (s.ax (k:=1) rfl I) (a:=4) (b:=12) (by omega) (by omega)).1) ?_)
  refine au.any rfl rfl rfl rfl (OpR.call rfl rfl rfl rfl (kI hT s (k:=1) rfl (iP I (a:=4) (b:=12) (by omega) (by omega)) (by simp; omega))) ?_
  rintro r h' ⟨rfl,rfl⟩
  have s1:=s
  refine zL rfl (by exact s.dF (k:=0) rfl ew cF) ?_
  refine au.any rfl rfl rfl rfl (OpR.call rfl rfl rfl rfl (nX hT s (k:=1) rfl I (by decide) (by decide) (by decide) (by omega) (by omega))) ?_
  rintro r h' ⟨rfl,s⟩
  have s2:=s
  refine zL rfl (by exact s.dF (k:=0) rfl ew cF) ?_
  refine au.any rfl rfl rfl rfl (OpR.call rfl rfl rfl rfl (nX hT s (k:=1) rfl I (by decide) (by decide) (by decide) (by omega) (by omega))) ?_
  rintro r h' ⟨rfl,s⟩
  refine zA rfl (zA rfl (zA rfl (zA rfl (zA rfl ?_))))
  refine au.nil ⟨⟨fun _ _=>.inr ⟨rfl,⟨_,aV rfl⟩,aU _ rfl⟩,fun _ _=>.inr ⟨rfl,⟨_,cH (r:=.ptr id off) rfl rfl U⟩,aU _ rfl⟩,Nf (.inr ⟨rfl,⟨_,aI rfl (mz (s0.ax (k:=1) rfl I) J U)⟩,aU _ rfl⟩) (.inr ⟨rfl,⟨_,aI rfl (mz (s1.ax (k:=1) rfl I) J U)⟩,aU _ rfl⟩) (.inr ⟨rfl,⟨_,aI rfl (mz (s2.ax (k:=1) rfl I) J U)⟩,aU _ rfl⟩) (.inr ⟨rfl,⟨_,aI rfl (mz (s.ax (k:=1) rfl I) J U)⟩,aU _ rfl⟩),fun _ _=>.inr ⟨rfl,⟨_,bz rfl (by exact gC Tryz.underlying5 Tryz.underlying3 (aF (by omega) (by omega)))⟩,aU _ rfl⟩,trivial,trivial,trivial,cR (.inr ⟨rfl,⟨_,aI rfl (by exact s0.dF (k:=0) rfl ew cF)⟩,aU _ rfl⟩) (.inr ⟨rfl,⟨_,aI rfl (by exact s1.dF (k:=0) rfl ew cF)⟩,aU _ rfl⟩),trivial,rD (.inr ⟨rfl,⟨_,aI rfl (by exact s0.dF (k:=0) rfl ew cF)⟩,aU _ rfl⟩) (.inr ⟨rfl,⟨_,aI rfl (by exact s1.dF (k:=0) rfl ew cF)⟩,aU _ rfl⟩) (.inr ⟨rfl,⟨_,aI rfl (by exact s2.dF (k:=0) rfl ew cF)⟩,aU _ rfl⟩),trivial,trivial,trivial,trivial,trivial,trivial,trivial⟩,?_⟩
  refine WP.ret ⟨trivial,_,rfl,?_⟩
  exact ⟨s.drop,.inl ⟨hg,rfl⟩⟩
 ·skip
  refine zm rfl (ze rfl (ze rfl ?_))
  refine ae.bO s rfl rfl rfl (bK ke) (fun p7 h s => ?_)
  dsimp only [V.cells,List.length_cons,List.length_nil,Nat.reduceAdd] at s
  refine ae.bn rfl rfl rfl rfl rfl (by exact s.eN (j:=0) rfl cF rfl rfl) (fun h s => ?_)
  dsimp only [setA] at s
  refine za rfl (zv (zw (zg rfl (zm rfl (ae.aR rfl rfl rfl (af rfl rfl aN) (rfl) (zv (zi rfl (zg rfl (zm rfl (za rfl (za rfl (za rfl (za rfl (za rfl (zv ?_)))))))))))))))
  refine WP.ret ⟨trivial,_,rfl,?_⟩
  exact ⟨s.drop,.inr ⟨hg,rfl⟩⟩
end
end Go.Proofs.YtconhghphklfjaaGreat.Am
