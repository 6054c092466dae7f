/- After a crash the log has the records of the groups that are there and no others, with their numbers and data; the conditions are those of the given statement, for arguments that a machine can hold. Part 26 of 54. -/
import Derived.Test.YtconhghphklfjaaGreatL25
namespace Go.Proofs.YtconhghphklfjaaGreat.Am
open Go
section
variable {told:Nat→Option (List V→H→Option (V×H))} {h:H} {S:List ah} {X:ah} {p:Nat} {δ:Dk}
def Dk.wr (δ:Dk)(n:Int)(b:List Nat): Dk:={ δ.cO with waiting:=δ.waiting++[(n.toNat,b)],now:=cA n b δ.now }
theorem Li : ∃i,Tryz.prog.info? 125=some i∧i.size=2∧i.bytes=32 :=
 ⟨_,(show Tryz.prog.info? 125=some ((Tryz.prog.info? 125).getD default) by kernel_rfl),by kernel_rfl,by kernel_rfl⟩
theorem Sat.Nv {cs:List V}{m:List Wr}{u:V}{x:Wr}(s:Sat h (.bp u x.2::nV cs m::S))(hu:u≠.aH): Sat h (nV (cs++[.int .i64 (x.1:Int),u]) (m++[x])::S) :=
 s.two (aq.bp _ _) (aq.wr _ _) fun _ _ I J=>Lf J hu I
theorem Gc (hT:W told){n:Int}{x:V}{b:List Nat}(s:Sat h (az p δ::X::S))(hX:bU X (bZ x b))(hb:b.length<1073741824)(hf:δ.aJ<4294967296)(hw:δ.waiting.length≤268435456):
  Call ⟨Tryz.prog,told⟩ 108 [.ptr p 0,.int .i64 n,x] h fun v h' =>
  (δ.dead=true∧v=.int .i64 9∧Sat h' (az p δ::X::S)) ∨
  (δ.dead=false∧¬(0≤n∧n<δ.aj.length∧b.length=512)∧v=.int .i64 1∧Sat h' (az p δ::X::S)) ∨
  (δ.dead=false∧0≤n∧n<δ.aj.length∧b.length=512∧δ.aJ=0∧v=.int .i64 9∧Sat h' (az p { δ.die with gQ:=some (n.toNat,b) }::X::S)) ∨
  (δ.dead=false∧0≤n∧n<δ.aj.length∧b.length=512∧δ.aJ≠0∧v=.int .i64 0∧Sat h' (az p (δ.wr n b)::X::S)):=by
 have J:=s
 obtain ⟨pg,wt,nw,lg,mk,tn,tl,ops,s⟩:=aQ.1 s
 refine Call.of_wp (hT.free _ rfl) Tryz.func108 rfl rfl (zg rfl (za rfl (zv (zw (WP.block (zg rfl (zm rfl (zn rfl (zf rfl (gI _ _) ?_)))))))))
 refine ae.dh rfl rfl rfl (aI rfl (by exact s.ld (k:=0) rfl gU rfl)) ?_ ?_
 ·intro U
  refine za rfl (zv (zi rfl (zg rfl (za rfl (zv ?_)))))
  refine WP.ret ⟨trivial,_,rfl,?_⟩
  exact .inl ⟨U,rfl,J⟩
 ·intro U
  refine za rfl (zv (zj rfl (zg rfl (zm rfl (zm rfl (ae.call rfl rfl rfl rfl rfl rfl rfl (Gb hT J) ?_))))))
  rintro v h' ⟨rfl,(⟨Ql,Qm,rfl⟩ | ⟨hn,rfl⟩)⟩
  ·skip
   refine zo rfl (dA rfl rfl) (zm rfl (zm rfl (zo rfl (aL rfl rfl rfl (by exact aG Tryz.underlying32 (s.ax (k:=8) rfl hX))) ?_)))
   refine ae.dh rfl rfl rfl (af rfl rfl aN) ?_ ?_
   ·intro I
    have I:b.length≠512:=by simp at I; omega
    refine zp rfl (za rfl (zv (zi rfl (zg rfl (za rfl (zv ?_))))))
    refine WP.ret ⟨trivial,_,rfl,?_⟩
    exact .inr (.inl ⟨U,fun q=>I q.2.2,rfl,J⟩)
   ·intro I
    have I:b.length=512:=by simp at I; omega
    refine zp rfl (za rfl (zv (zj rfl (WP.skip (zg rfl (zm rfl (zm rfl (ae.call rfl rfl rfl rfl rfl rfl rfl (fR hT (J.aa [1]) hX hb) ?_))))))))
    intro u h s
    obtain ⟨qM,_,cap,_,rfl,_⟩:=s.gJ (by omega)
    have s:=s.eF
    have Qn:((n.toNat:Nat):Int)=n:=by omega
    refine zo rfl (bW rfl (by rw [OT]; rfl)) ?_
    refine ae.bO s rfl rfl rfl (bK yO) (fun p7 h s => ?_)
    dsimp only [V.cells,List.length_cons,List.length_nil,Nat.reduceAdd,ai,bringA] at s
    refine ae.bn rfl rfl rfl rfl rfl (by exact s.eN (j:=0) rfl vu rfl rfl) (fun h s => ?_)
    dsimp only [V.cells,List.take,Nat.reduceAdd,List.length_cons,List.length_nil,List.drop,List.cons_append,List.nil_append,setA] at s
    refine zv (zw (zg rfl (zm rfl (ae.call rfl rfl rfl rfl rfl rfl rfl (kH hT (s.aa [3]) hf) ?_))))
    rintro v h (⟨h0,rfl,s⟩ | ⟨h0,rfl,s⟩)
    ·skip
     obtain ⟨pg,wt,nw,lg,mk,tn,tl,ops,s⟩:=aQ.1 s
     refine zo rfl (dA rfl rfl) (zv (zi rfl (zg rfl (zm rfl (zn rfl (zf rfl (nR _ _) ?_))))))
     refine ae.bn rfl rfl rfl rfl rfl (by exact s.cZ (k:=0) rfl OR rfl (by decide) rfl rfl) (fun h s => ?_)
     dsimp only [lI,ai,bringA,Nat.reduceAdd,List.set,setA] at s
     refine zv (zg rfl (za rfl (zv ?_)))
     refine WP.ret ⟨trivial,_,rfl,?_⟩
     have s1:=s.aa [8,8,8]
     have s2:Sat h (sV _ (some (n.toNat,b))::_):=eA.2 ⟨_,eA.2 ⟨_,cG.2 (cL.2 ⟨rfl,by rw [Qn]; exact s1⟩)⟩⟩
     have s3:=(s2.del 8).aa [2,2,2,2,2,2,0,1,0]
     exact .inr (.inr (.inl ⟨U,Ql,Qm,I,h0,rfl,aQ.2 ⟨_,_,_,_,_,_,_,_,s3⟩⟩))
    ·skip
     obtain ⟨pg,wt,nw,lg,mk,tn,tl,ops,s⟩:=aQ.1 s
     dsimp only [Dk.cO] at s
     obtain ⟨cs,sw⟩:=iM.1 (s.aa [2])
     have s:=sw.aa [2,8,0,0]
     dsimp only [lI,ai,bringA,getA] at s
     have J:=s
     have Qo:=(s.gx (j:=2) rfl).2.2
     refine zo rfl (dA rfl rfl) (zv (zj rfl (WP.skip (zw (WP.drawn [some (0,3),some (0,2),some (0,2),some (0,2),some (0,2),none,none,none,none,none,none] rfl (by kernel_rfl) (by kernel_rfl) ?_)))))
     refine zM rfl (zM rfl (zN rfl (zF rfl (nh _ _) (zL rfl (by exact s.ld (k:=0) rfl vt rfl) ?_))))
     refine zL rfl (by exact s.dF (k:=1) rfl J1 vu) ?_
     obtain ⟨i1,js,iI,pq⟩:=Li
     obtain ⟨sv,h1,e1,s1⟩:=jG (P:=Tryz.prog) (x:=.agg [.int .i64 n,.sl qM 0 b.length cap]) s Tryz.underlying120 yO vu rfl (by decide) (by decide) rfl rfl
     dsimp only [V.cells] at s1
     refine au.any rfl rfl rfl rfl (OpR.of (R:=fun v h'=>v=sv∧h'=h1) (mD rfl e1) ⟨rfl,rfl⟩) ?_
     rintro v h' ⟨rfl,rfl⟩
     have nW:cs.length=δ.waiting.length*2:=by
      obtain ⟨a,b,q1,q2,q3⟩:=s.at (k:=3) rfl
      exact sS q3
     obtain ⟨Ts,h2,e2,s2⟩:=fP (s1.aa [3,0]) Tryz.underlying120 js yO iI (by omega) rfl (by decide) (by simp only [V.cells,List.length_cons,List.length_nil]; omega)
     dsimp only [ai,bringA] at s2
     refine au.any rfl rfl rfl rfl (OpR.of (R:=fun v h'=>v=Ts∧h'=h2) (j_ rfl rfl e2) ⟨rfl,rfl⟩) ?_
     rintro v h' ⟨rfl,rfl⟩
     have hv:=s2.gx (j:=0) rfl
     refine zN rfl (zF rfl (nh _ _) (au.fI rfl rfl rfl (OpR.bn rfl rfl rfl (s2.cZ (k:=2) rfl J0 rfl (by decide) hv.1 hv.2.1)) ?_))
     rintro v h ⟨rfl,s⟩
     dsimp only [Nat.reduceAdd,List.set,setA] at s
     refine au.nil ⟨⟨fun _ _=>.inr ⟨rfl,⟨_,aV rfl⟩,aU _ rfl⟩,fun _ _=>.inr ⟨rfl,⟨_,aV rfl⟩,aU _ rfl⟩,fun _ _=>.inr ⟨rfl,⟨_,kX rfl⟩,aU _ rfl⟩,fun _ _=>.inr ⟨rfl,⟨_,iO rfl (nh _ _)⟩,aU _ rfl⟩,cR (.inr ⟨rfl,⟨_,aI rfl (by exact J.ld (k:=0) rfl vt rfl)⟩,Qo⟩) (.inr ⟨rfl,⟨_,aI rfl (by exact s1.ld (k:=1) rfl vt rfl)⟩,Qo⟩),trivial,trivial,trivial,trivial,trivial,trivial,trivial⟩,?_⟩
     refine zw (WP.drawn [none,none,none,none,none,none,none,none] rfl (by kernel_rfl) (by kernel_rfl) ?_)
     refine zM rfl (zN rfl (zF rfl (sI _ _) (zL rfl (by exact s.ld (k:=2) rfl iD rfl) ?_)))
     refine zM rfl (zF rfl (wP _ _) (zL rfl (by exact s.ld (k:=3) rfl bg rfl) ?_))
     refine au.fI rfl rfl rfl (OpR.mapUpdate rfl rfl rfl rfl (kj (f:=fun v b=>ah.bp v b) (x:=b) (fun _ _=>aq.bp _ _) (((s.aa [11]).dup (aq.bp _ _)).aa [0,7]) Tryz.underlying86 Tryz.underlying3)) ?_
     intro v h s
     dsimp only [ai,bringA] at s
     refine au.nil ⟨⟨trivial,trivial,trivial,trivial,trivial,trivial,trivial,trivial,trivial⟩,?_⟩
     refine zg rfl (za rfl (zv ?_))
     refine WP.ret ⟨trivial,_,rfl,?_⟩
     have s1:=(s.aa [1,5]).Nv (x:=(n.toNat,b)) (by simp)
     rw [Qn] at s1
     have s2:=((iM.2 ⟨_,s1.aa [2,0]⟩).del 4).del 2
     exact .inr (.inr (.inr ⟨U,Ql,Qm,I,h0,rfl,aQ.2 ⟨_,_,_,_,_,_,_,_,s2.aa [2,2,0,0,0,0,0,0,0]⟩⟩))
  ·skip
   refine zo rfl (dA rfl rfl) (zm rfl (zx rfl (zx rfl (zx rfl (zq rfl (za rfl (zv (zi rfl (zg rfl (za rfl (zv ?_)))))))))))
   refine WP.ret ⟨trivial,_,rfl,?_⟩
   exact .inr (.inl ⟨U,fun q=>hn ⟨q.1,q.2.1⟩,rfl,J⟩)
theorem Lj (J:W told)(s:Sat h (az p δ::S))(U:δ.log.length<1073741824): Call ⟨Tryz.prog,told⟩ 103 [.ptr p 0] h fun v h' =>
  (δ.dead=true∧v=.aW [.aH,.int .i64 9]∧Sat h' (az p δ::S))∨(δ.dead=false∧∃b,v=.aW [b,.int .i64 0]∧Sat h' (a_ b δ.log::az p δ::S)):=by
 have s0:=s
 obtain ⟨pg,wt,nw,lg,mk,tn,tl,ops,s⟩:=aQ.1 s
 refine Call.of_wp (J.free _ rfl) Tryz.func103 rfl rfl (zg rfl (za rfl (za rfl (zv (zw (zg rfl (zm rfl (zn rfl (zf rfl (gI _ _) ?_)))))))))
 refine ae.dh rfl rfl rfl (aI rfl (by exact s.ld (k:=0) rfl gU rfl)) ?_ ?_
 ·intro I
  refine zv (zi rfl (zg rfl (za rfl (za rfl (zv ?_)))))
  refine WP.ret ⟨trivial,_,rfl,?_⟩
  exact .inl ⟨I,rfl,s0⟩
 ·intro I
  refine zv (zj rfl (WP.skip (zg rfl (zm rfl (zn rfl (zf rfl (gH _ _) (zl rfl (by exact s.ld (k:=0) rfl bg rfl) ?_)))))))
  refine ae.call rfl rfl rfl rfl rfl rfl rfl (fR J (s.aa [4]) (bk _ _) U) ?_
  intro v h s
  dsimp only [lI,ai,bringA] at s
  refine za rfl (za rfl (zv ?_))
  refine WP.ret ⟨trivial,_,rfl,?_⟩
  exact .inr ⟨I,v,rfl,(aQ.2 ⟨pg,wt,nw,lg,mk,tn,tl,ops,s.aa [2,2,2,2,1,1,1,1,0]⟩).aa [1]⟩
theorem vF (J:W told)(s:Sat h (az p δ::S))(hl:δ.mark.length≤64): Call ⟨Tryz.prog,told⟩ 102 [.ptr p 0] h fun v h' =>
  (δ.dead=true∧v=.aW [.aH,.int .i64 9]∧Sat h' (az p δ::S))∨(δ.dead=false∧∃b,v=.aW [b,.int .i64 0]∧Sat h' (a_ b δ.mark::az p δ::S)):=by
 have U:=s
 obtain ⟨pg,wt,nw,lg,mk,tn,tl,ops,s⟩:=aQ.1 s
 refine Call.of_wp (J.free _ rfl) Tryz.func102 rfl rfl (zg rfl (za rfl (za rfl (zv (zw (zg rfl (zm rfl (zn rfl (zf rfl (gI _ _) ?_)))))))))
 refine ae.dh rfl rfl rfl (aI rfl (by exact s.ld (k:=0) rfl gU rfl)) ?_ ?_
 ·intro I
  refine zv (zi rfl (zg rfl (za rfl (za rfl (zv ?_)))))
  refine WP.ret ⟨trivial,_,rfl,?_⟩
  exact .inl ⟨I,rfl,U⟩
 ·intro I
  refine zv (zj rfl (WP.skip (zg rfl (zm rfl (zn rfl (zf rfl (wN _ _) (zl rfl (by exact s.ld (k:=0) rfl bg rfl) ?_)))))))
  refine ae.call rfl rfl rfl rfl rfl rfl rfl (fR J (s.aa [5]) (bN _ _) (by omega)) ?_
  intro v h s
  dsimp only [lI,ai,bringA] at s
  refine za rfl (za rfl (zv ?_))
  refine WP.ret ⟨trivial,_,rfl,?_⟩
  exact .inr ⟨I,v,rfl,(aQ.2 ⟨pg,wt,nw,lg,mk,tn,tl,ops,s.aa [2,2,2,2,2,1,1,1,0]⟩).aa [1]⟩
theorem Is (hT:W told){n:Int}(s:Sat h (az p δ::S))(hf:δ.aJ<4294967296)(hl:δ.log.length<1073741824):
  Call ⟨Tryz.prog,told⟩ 104 [.ptr p 0,.int .i64 n] h fun v h' =>
  (δ.dead=true∧v=.int .i64 9∧Sat h' (az p δ::S))∨(δ.dead=false∧¬(0≤n∧n≤δ.log.length)∧v=.int .i64 1∧Sat h' (az p δ::S)) ∨
  (δ.dead=false∧0≤n∧n≤δ.log.length∧δ.aJ=0∧v=.int .i64 9∧Sat h' (az p δ.die::S)) ∨
  (δ.dead=false∧0≤n∧n≤δ.log.length∧δ.aJ≠0∧v=.int .i64 0∧Sat h' (az p { δ.cO with log:=δ.log.take n.toNat,aT:=n.toNat }::S)):=by
 have s0:=s
 obtain ⟨pg,wt,nw,lg,mk,tn,tl,ops,s⟩:=aQ.1 s
 refine Call.of_wp (hT.free _ rfl) Tryz.func104 rfl rfl (zg rfl (za rfl (zv (zw (WP.block (zg rfl (zm rfl (zn rfl (zf rfl (gI _ _) ?_)))))))))
 refine ae.dh rfl rfl rfl (aI rfl (by exact s.ld (k:=0) rfl gU rfl)) ?_ ?_
 ·intro U
  refine za rfl (zv (zi rfl (zg rfl (za rfl (zv ?_)))))
  refine WP.ret ⟨trivial,_,rfl,?_⟩
  exact .inl ⟨U,rfl,s0⟩
 ·intro U
  refine za rfl (zv (zj rfl (zg rfl (zm rfl ?_))))
  refine ae.dh rfl rfl rfl (af rfl rfl aX) ?_ ?_
  ·intro J
   have J:n<0:=by simpa using J
   refine zm rfl (zx rfl (zx rfl (zx rfl (zx rfl (zx rfl (zx rfl (zx rfl (zq rfl (za rfl (zv (zi rfl (zg rfl (za rfl (zv ?_))))))))))))))
   refine WP.ret ⟨trivial,_,rfl,?_⟩
   exact .inr (.inl ⟨U,fun q=>by omega,rfl,s0⟩)
  ·intro J
   have J:0≤n:=by simpa using J
   refine zm rfl (zm rfl (zm rfl (zn rfl (zf rfl (gH _ _) (zl rfl (by exact s.ld (k:=0) rfl bg rfl) ?_)))))
   refine zo rfl (aL rfl rfl rfl (by exact aG Tryz.underlying32 (s.ax (k:=4) rfl (bk _ _)))) ?_
   refine ae.dh rfl rfl rfl (af rfl rfl dS) ?_ ?_
   ·intro I
    have I:(δ.log.length:Int)<n:=by simpa using I
    refine zp rfl (za rfl (zv (zi rfl (zg rfl (za rfl (zv ?_))))))
    refine WP.ret ⟨trivial,_,rfl,?_⟩
    exact .inr (.inl ⟨U,fun q=>by omega,rfl,s0⟩)
   ·intro I
    have I:n≤δ.log.length:=by simpa using I
    refine zp rfl (za rfl (zv (zj rfl (zg rfl (zm rfl (ae.call rfl rfl rfl rfl rfl rfl rfl (kH hT s0 hf) ?_))))))
    rintro v h (⟨h0,rfl,s⟩ | ⟨h0,rfl,s⟩)
    ·skip
     refine zo rfl (dA rfl rfl) (za rfl (zv (zi rfl (zg rfl (za rfl (zv ?_))))))
     refine WP.ret ⟨trivial,_,rfl,?_⟩
     exact .inr (.inr (.inl ⟨U,J,I,h0,rfl,s⟩))
    ·skip
     obtain ⟨pg,wt,nw,lg,mk,tn,tl,ops,s⟩:=aQ.1 s
     dsimp only [Dk.cO] at s
     obtain ⟨k,rfl⟩:∃k:Nat,n=k:=⟨n.toNat,by omega⟩
     refine zo rfl (dA rfl rfl) (za rfl (zv (zj rfl (WP.skip (zg rfl (zm rfl (zm rfl (zn rfl (zf rfl (gH _ _) (zl rfl (by exact s.ld (k:=0) rfl bg rfl) ?_))))))))))
     refine zm rfl (zo rfl (bM (p:=none) (q:=some (.int .i64 (k:Int))) (m:=none) (p':=none) (q':=some k) (m':=none) rfl rfl rfl rfl rfl (by simp [er,bndV]) rfl (eV (s.buf (k:=4) rfl).view (b:=k) (by omega)).1) ?_)
     refine ae.call rfl rfl rfl rfl rfl rfl rfl (fR hT (s.aa [4]) (p9 (bk _ _) (b:=k) (by omega)) (by simp; omega)) ?_
     intro v h s
     dsimp only [lI,ai,bringA] at s
     have hv:=(s.buf (k:=0) rfl).view.cells
     refine zn rfl (zf rfl (gH _ _) (ae.bn rfl rfl rfl rfl rfl (s.cZ (k:=2) rfl ig rfl (by decide) hv.1 hv.2) ?_))
     intro h s
     dsimp only [Nat.reduceAdd,List.set,setA] at s
     refine zv (zg rfl (zm rfl (zm rfl (zn rfl (zf rfl (ni _ _) ?_)))))
     refine ae.bn rfl rfl rfl rfl rfl (by exact s.cZ (k:=2) rfl jh rfl (by decide) rfl rfl) (fun h s => ?_)
     dsimp only [Nat.reduceAdd,List.set,setA] at s
     refine zv (zg rfl (za rfl (zv ?_)))
     refine WP.ret ⟨trivial,_,rfl,?_⟩
     have s:=(s.del 1).aa [1,1,1,1,0,0,0,0]
     exact .inr (.inr (.inr ⟨U,J,I,h0,rfl,aQ.2 ⟨pg,wt,nw,v,mk,tn,tl,ops,s⟩⟩))
def Dk.fresh (aj room:Nat): Dk:={ room:=room,aj:=List.replicate aj none,waiting:=[],now:=[],log:=[],aT:=0,mark:=[],aJ := -1,dead:=false,gQ:=none,tail:=[] }
theorem Lk : ∃i,Tryz.prog.info? 32=some i∧i.size=1∧i.bytes=24 :=
 ⟨_,(show Tryz.prog.info? 32=some ((Tryz.prog.info? 32).getD default) by kernel_rfl),by kernel_rfl,by kernel_rfl⟩
theorem BI (v:V): ∀n:Nat,repeatL [v] n=List.replicate n v:=by
 intro n
 induction n with
 | zero=>rfl
 | succ n I=>simp only [repeatL,I,List.replicate_succ,List.cons_append,List.nil_append]
theorem Gd {a b:PM}: ∀n:Nat,(each hO (List.replicate n .aH) (List.replicate n none)).p a b:=by
 intro n
 induction n with
 | zero=>trivial
 | succ n I=>exact ⟨rfl,I⟩
theorem An (hT:W told){n m:Nat}(s:Sat h S)(hn:n<1073741824): Call ⟨Tryz.prog,told⟩ 63 [.int .i64 (n:Int),.int .i64 (m:Int)] h fun v h'=>∃p,v=.ptr p 0∧Sat h' (az p (Dk.fresh n m)::S):=by
 refine Call.of_wp (hT.free _ rfl) Tryz.func63 rfl rfl (zg rfl (za rfl (zv (zg rfl (zm rfl (zm rfl ?_))))))
 obtain ⟨i1,I,J,pq⟩:=Lk
 obtain ⟨id,h1,e1,s1⟩:=rP (P:=Tryz.prog) s Tryz.underlying119 I rI J (by omega) rfl (by decide) hn
 refine ae.any rfl rfl rfl (OpR.of (R:=fun v h'=>v=.sl id 0 n (.exact n)∧h'=h1) (ow rfl rfl e1) ⟨rfl,rfl⟩) ?_
 rintro v h ⟨rfl,rfl⟩
 have s:=s1
 dsimp only [V.cells] at s
 rw [Nat.mul_one,BI] at s
 refine ae.rH s rfl rfl rfl rfl (fun p8 h s => ?_)
 refine zo rfl (bW rfl (by rw [OS]; rfl)) ?_
 refine ae.bO s rfl rfl rfl (ff rfl rfl) (fun V2 h s => ?_)
 dsimp only [V.cells,List.take,Nat.reduceAdd,List.length_cons,List.length_nil,List.drop,List.cons_append,List.nil_append] at s
 refine za rfl (zv ?_)
 refine WP.ret ⟨trivial,_,rfl,?_⟩
 have s:=(nT (f:=fun v b=>ah.bp v b) (s.aa [1]))
 have s:=s.mh.mh.F2
 have s:Sat _ (sU .aH []::_):=iM.2 ⟨[],(s.eu (φ:=True) trivial).jZ⟩
 have s:Sat _ (sV .bI none::_):=s.eu rfl
 dsimp only [ai,bringA] at s
 have s:=s.aa [6,6]
 dsimp only [bringA,getA,ai] at s
 have U:Sat _ (j4 (.sl id 0 n (.exact n)) (List.replicate n none)::_):=dP.2 ⟨id,List.replicate n .aH,by rw [List.length_replicate],by
  rw [List.length_replicate]
  exact (((s.aa [1]).eu (φ:=True) trivial).dY fun a b _=>Gd n).aa [1]⟩
 dsimp only [bringA,getA,ai] at U
 exact ⟨_,rfl,aQ.2 ⟨_,_,_,_,_,_,_,_,U.aa [1,0,1,4,1,1,0,0]⟩⟩
theorem Ll (hT:W told){n m:Int}(s:Sat h S): Call ⟨Tryz.prog,told⟩ 41 [.int .i64 n,.int .i64 m] h fun v h' =>
  (¬(1≤n∧n≤65536∧0≤m∧m≤16777216)∧v=.aW [.bI,.int .i64 1]∧Sat h' S) ∨
  (1≤n∧n≤65536∧0≤m∧m≤16777216∧∃p,v=.aW [.ptr p 0,.int .i64 0]∧Sat h' (az p (Dk.fresh n.toNat m.toNat)::S)):=by
 refine Call.of_wp (hT.free _ rfl) Tryz.func41 rfl rfl (zg rfl (za rfl (za rfl (zv (zw (zg rfl (zm rfl ?_)))))))
 refine ae.dh rfl rfl rfl (af rfl rfl aX) ?_ ?_
 ·intro hq
  have hq:n<1:=by simpa using hq
  refine zm rfl (zx rfl (zx rfl (zq rfl (zm rfl (zx rfl (zx rfl (zq rfl (zm rfl (zx rfl (zx rfl (zq rfl (zv (zi rfl (zg rfl (za rfl (za rfl (zv ?_)))))))))))))))))
  refine WP.ret ⟨trivial,_,rfl,?_⟩
  exact .inl ⟨fun q=>by omega,rfl,s⟩
 ·intro hq
  have hq:1≤n:=by simpa using hq
  refine zm rfl (zm rfl ?_)
  refine ae.dh rfl rfl rfl (af rfl rfl dS) ?_ ?_
  ·intro I
   have I:65536<n:=by simpa using I
   refine zp rfl (zm rfl (zx rfl (zx rfl (zq rfl (zm rfl (zx rfl (zx rfl (zq rfl (zv (zi rfl (zg rfl (za rfl (za rfl (zv ?_))))))))))))))
   refine WP.ret ⟨trivial,_,rfl,?_⟩
   exact .inl ⟨fun q=>by omega,rfl,s⟩
  ·intro I
   have I:n≤65536:=by simpa using I
   refine zp rfl (zm rfl (zm rfl ?_))
   refine ae.dh rfl rfl rfl (af rfl rfl aX) ?_ ?_
   ·intro J
    have J:m<0:=by simpa using J
    refine zp rfl (zm rfl (zx rfl (zx rfl (zq rfl (zv (zi rfl (zg rfl (za rfl (za rfl (zv ?_))))))))))
    refine WP.ret ⟨trivial,_,rfl,?_⟩
    exact .inl ⟨fun q=>by omega,rfl,s⟩
   ·intro J
    have J:0≤m:=by simpa using J
    refine zp rfl (zm rfl (zm rfl ?_))
    refine ae.dh rfl rfl rfl (af rfl rfl dS) ?_ ?_
    ·intro U
     have U:16777216<m:=by simpa using U
     refine zp rfl (zv (zi rfl (zg rfl (za rfl (za rfl (zv ?_))))))
     refine WP.ret ⟨trivial,_,rfl,?_⟩
     exact .inl ⟨fun q=>by omega,rfl,s⟩
    ·intro U
     have U:m≤16777216:=by simpa using U
     refine zp rfl (zv (zj rfl (WP.skip (zg rfl (zm rfl (zm rfl ?_))))))
     obtain ⟨n,rfl⟩:∃k:Nat,n=k:=⟨n.toNat,by omega⟩
     obtain ⟨m,rfl⟩:∃k:Nat,m=k:=⟨m.toNat,by omega⟩
     refine ae.call rfl rfl rfl rfl rfl rfl rfl (An hT s (by omega)) ?_
     rintro v h ⟨p,rfl,s⟩
     refine za rfl (za rfl (zv ?_))
     refine WP.ret ⟨trivial,_,rfl,?_⟩
     exact .inr ⟨hq,I,J,U,p,rfl,s⟩
end
end Go.Proofs.YtconhghphklfjaaGreat.Am
namespace Go.Proofs.YtconhghphklfjaaGreat.Am
open Go
def leN : List Nat→Nat
 | []=>0
 | b::l=>b+256*leN l
theorem It : ∀(l:List Nat) (b:Nat),leN (l++[b])=leN l+b*256^l.length:=by
 intro l
 induction l with
 | nil=>intro b; simp [leN]
 | cons x l I=>intro b; simp only [List.cons_append,leN,I,List.length_cons,Nat.pow_succ,Nat.mul_add]; rw [←Nat.add_assoc,Nat.mul_comm (256^l.length) 256,←Nat.mul_assoc b,Nat.mul_comm b 256,Nat.mul_assoc 256 b]
theorem rT : ∀(l:List Nat),(∀b∈l,b<256)→leN l<256^l.length:=by
 intro l
 induction l with
 | nil=>intro _; simp [leN]
 | cons x l I =>
  intro h
  have U:=I (fun b J=>h b (List.mem_cons_of_mem _ J))
  have h2:=h x List.mem_cons_self
  simp only [leN,List.length_cons,Nat.pow_succ]
  omega
theorem Ao (i:Nat): (256:Nat)^i=2^(8*i):=by rw [Nat.pow_mul]
theorem RS {P:Program}{h:H}{t:TypeId}{x y:Operand}{d i:Nat}(U:d<256)(hi:i≤7): binV P h .shl t x y (.int .u64 (d:Int)) (.int .i64 (8*(i:Int)))=some (.int .u64 ((d*256^i:Nat):Int)):=by
 have J:(256:Nat)^i≤256^7:=Nat.pow_le_pow_right (by omega) hi
 have I:d*256^i<18446744073709551616:=by
  have:d*256^i≤255*256^7:=Nat.mul_le_mul (by omega) J
  omega
 simp only [binV,shiftV,IntKind.bits]
 have e:(8*(i:Int)).toNat=8*i:=by omega
 rw [e,show min (8*i) 64=8*i by omega,show decide (8*(i:Int)<0)=false by simp; omega,cond_false]
 have:(d:Int)*2^(8*i)=((d*256^i:Nat):Int):=by rw [Ao]; push_cast; rfl
 simp only [this,wrap_u64 I]
theorem Tt {P:Program}{h:H}{t:TypeId}{x y:Operand}{a d i:Nat}(I:a<256^i)(hd:d<256)(hi:i≤7): binV P h .or t x y (.int .u64 (a:Int)) (.int .u64 ((d*256^i:Nat):Int))=some (.int .u64 ((a+d*256^i:Nat):Int)):=by
 have J:(256:Nat)^i≤256^7:=Nat.pow_le_pow_right (by omega) hi
 have hm:d*256^i≤255*256^7:=Nat.mul_le_mul (by omega) J
 have U:((a:Int)%(2^(IntKind.u64).bits:Int)).toNat=a:=by simp only [IntKind.bits]; omega
 have h2:(((d*256^i:Nat):Int)%(2^(IntKind.u64).bits:Int)).toNat=d*256^i:=by simp only [IntKind.bits]; omega
 have h3:Nat.lor a (d*256^i)=a+d*256^i:=by
  have e:d*256^i=2^(8*i)*d:=by rw [←Ao,Nat.mul_comm]
  have:=Nat.two_pow_add_eq_or_of_lt (i:=8*i) (b:=a) (by rw [←Ao]; exact I) d
  rw [←e] at this
  rw [Nat.add_comm a,this]
  exact Nat.or_comm _ _
 simp only [binV,ikBeq,cond_true,intV,bitsV,U,h2,h3]
 rw [wrap_u64 (by omega)]
section
variable {told:Nat→Option (List V→H→Option (V×H))} {h:H} {S:List ah} {X:ah} {k:Nat} {v:V} {l:List Nat}
noncomputable def Tu : Code:=cn [1,1,0,1,0,0] ((Tryz.f61.body).getD .skip)
theorem Ge (U:View h v l)(hl:l.length≤8): ∀(j i:Nat) (E:List (Nat×V)) (Q:Ex→List (Nat×V)→H→Prop),i+j=l.length →
  Has E [(3,.int .u64 (leN (l.take i))),(6,v),(7,.int .i64 l.length),(8,.int .i64 i)]→(∀E',look E' 3=some (.int .u64 (leN l))→Q (.exit 0) E' h)→WP ⟨Tryz.prog,told⟩ 22 (.loop Tu) E h Q:=by
 intro j
 induction j with
 | zero =>
  intro i E Q hi hE hq
  refine WP.loop (WP.has hE (zg rfl (ae.aE rfl rfl rfl (af rfl rfl aX) (by simp; omega) ?_)))
  refine zv (zw (zj rfl (WP.exit (hq _ ?_))))
  rw [List.take_of_length_le (by omega)]
  rfl
 | succ j ih =>
  intro i E Q hi hE hq
  have J:l[i]?=some (l[i]'(by omega)):=List.getElem?_eq_getElem _
  generalize uX:(l[i]'(by omega))=b at J
  have I:b<256:=U.1 b (List.mem_of_getElem? J)
  obtain ⟨id,off,e1,e2⟩:=eS U J
  have ht:l.take (i+1)=l.take i++[b]:=by rw [List.take_add_one,J]; rfl
  have bB:leN (l.take i)<256^i:=by
   have:=rT (l.take i) (fun x hx=>U.1 x (List.mem_of_mem_take hx))
   rwa [List.length_take,Nat.min_eq_left (by omega)] at this
  refine WP.loop (WP.has hE (zg rfl (ae.aR rfl rfl rfl (af rfl rfl aX) (by simp; omega) ?_)))
  refine zv (zw (zi rfl (WP.skip (zw (WP.block (zg rfl (zm rfl (zo rfl (cH (r:=.ptr id off) rfl rfl e1) (zl rfl e2 (za rfl (za rfl (zv (zr rfl (zm rfl (zm rfl (zo rfl (bz rfl (by exact gC Tryz.underlying5 Tryz.underlying35 (dM (by omega) (by omega)))) ?_))))))))))))))))
  refine zm rfl (zb rfl (by exact uk (aF (by omega) (by omega))) ?_)
  refine zb rfl (RS I (by omega)) ?_
  refine zb rfl (Tt bB I (by omega)) ?_
  refine za rfl (zv (zr rfl (zb rfl (by exact bl (aF (by omega) (by omega))) ?_)))
  refine zm rfl (zv ?_)
  refine ih (i+1) _ _ (by omega) ?_ hq
  rw [ht,It,List.length_take,Nat.min_eq_left (by omega)]
  exact ⟨rfl,rfl,rfl,rfl,trivial⟩
theorem kI (U:W told)(s:Sat h S)(hk:getA S k=some X)(hX:bU X (bZ v l))(hl:l.length≤8): Call ⟨Tryz.prog,told⟩ 61 [v] h fun r h'=>r=.int .u64 (leN l)∧h'=h:=by
 have J:=s.ax hk hX
 refine Call.of_wp (U.free _ rfl) Tryz.func61 rfl rfl (zg rfl (za rfl (zv (zg rfl (za rfl (zv (zw (zg rfl (zm rfl (zo rfl (aL rfl rfl rfl (aG Tryz.underlying32 J)) (zm rfl (zv (WP.block ?_)))))))))))))
 refine Ge J hl l.length 0 _ _ (by omega) ⟨rfl,rfl,rfl,rfl,trivial⟩ (fun E' I => ?_)
 refine WP.has (F:=[(3,.int .u64 (leN l))]) ⟨I,trivial⟩ (zg rfl (zm rfl (za rfl (zv ?_))))
 refine WP.ret ⟨trivial,_,rfl,?_⟩
 exact ⟨rfl,rfl⟩
theorem Kg (I:W told)(s:Sat h S)(J:getA S k=some X)(U:bU X (bZ v l))(hl:l.length≤4611686018427387904): Call ⟨Tryz.prog,told⟩ 84 [v] h fun r h'=>r=.int .u32 (rS 0 l:Nat)∧h'=h:=by
 refine Call.of_wp (I.free _ rfl) Tryz.func84 rfl rfl (zg rfl (za rfl (zv (zg rfl (zm rfl (ae.call rfl rfl rfl rfl rfl rfl rfl (Lh (s:=0) I s J U (by decide) hl) ?_))))))
 rintro v h' ⟨rfl,rfl⟩
 refine za rfl (zv ?_)
 refine WP.ret ⟨trivial,_,rfl,?_⟩
 exact ⟨rfl,rfl⟩
def dm (l:List Nat)(a z:Nat): Nat:=leN ((l.take (a+z)).drop a)
theorem nX (hT:W told){a z:Int}(s:Sat h S)(J:getA S k=some X)(U:bU X (bZ v l))(ha:0≤a)(hz:1≤z)(Ap:z≤7)(hl:a+z≤l.length)(iq:l.length≤65536):
  Call ⟨Tryz.prog,told⟩ 83 [.agg [v],.int .i64 a,.int .i64 z] h fun r h'=>r=.int .i64 (dm l a.toNat z.toNat)∧Sat h' S:=by
 have hv:=s.ax J U
 obtain ⟨pi,po,pc,rfl⟩:=gX hv (by omega)
 refine Call.of_wp (hT.free _ rfl) Tryz.func83 rfl rfl (zg rfl ?_)
 refine ae.bO s rfl rfl rfl (ff rfl rfl) (fun p3 h s => ?_)
 dsimp only [V.cells,List.length_cons,List.length_nil,Nat.reduceAdd] at s
 refine za rfl (zv (zg rfl (zf rfl (kC _ _) (zl rfl (by exact s.ld (k:=0) rfl bg rfl) ?_))))
 refine zm rfl (zm rfl (zm rfl (zb rfl (by exact bl (aF (by omega) (by omega))) ?_)))
 refine zm rfl (zm rfl (zb rfl (by exact bl (aF (by omega) (by omega))) ?_))
 have iU:=BG (s.ax (ng J) U) (a:=a.toNat) (b:=(a+z).toNat) (c:=(a+z).toNat) (by omega) (by omega) (by omega) (by omega)
 refine zo rfl (bM (p:=some (.int .i64 a)) (q:=some (.int .i64 (a+z))) (m:=some (.int .i64 (a+z))) rfl rfl rfl rfl (dN ha) (dN (by omega)) (dN (by omega)) iU) ?_
 have hlen:((l.take (a+z).toNat).drop a.toNat).length=z.toNat:=by simp; omega
 refine ae.call rfl rfl rfl rfl rfl rfl rfl (kI hT s (ng J) (F3 U (a:=a.toNat) (b:=(a+z).toNat) (c:=(a+z).toNat) (by omega) (by omega) (by omega) (by omega)) (by omega)) ?_
 rintro r h' ⟨rfl,rfl⟩
 have I:=rT ((l.take (a+z).toNat).drop a.toNat) (fun x hx=>hv.1 x (List.mem_of_mem_take (List.mem_of_mem_drop hx)))
 have hp:256^z.toNat≤256^7:=Nat.pow_le_pow_right (by omega) (by omega)
 rw [hlen] at I
 have e:(a+z).toNat=a.toNat+z.toNat:=by omega
 rw [e] at I ⊢
 refine zo rfl (bz rfl (by exact gC Tryz.underlying35 Tryz.underlying3 (aF (by omega) (by omega)))) ?_
 refine za rfl (zv ?_)
 refine WP.ret ⟨trivial,_,rfl,?_⟩
 exact ⟨rfl,s.drop⟩
theorem lu {a z:Nat}(I:∀b∈l,b<256): dm l a z<256^z:=by
 have:=rT ((l.take (a+z)).drop a) (fun x J=>I x (List.mem_of_mem_take (List.mem_of_mem_drop J)))
 have U:((l.take (a+z)).drop a).length≤z:=by simp; omega
 exact Nat.lt_of_lt_of_le this (Nat.pow_le_pow_right (by omega) U)
def gy (l:List Nat): Nat:=dm l 14 2
def fh (l:List Nat): Nat:=dm l 16 2
def fS (l:List Nat)(i:Nat): Nat:=dm l (26+4*i) 2
def iz (l:List Nat)(i:Nat): Nat:=dm l (26+4*i+2) 2
theorem Iu (I:W told)(s:Sat h S)(J:getA S k=some X)(U:bU X (bZ v l))(hl:l.length=512):
  Call ⟨Tryz.prog,told⟩ 78 [.agg [v]] h fun r h'=>r=.int .i64 (gy l)∧Sat h' S:=by
 have hv:=s.ax J U
 obtain ⟨pi,po,pc,rfl⟩:=gX hv (by omega)
 refine Call.of_wp (I.free _ rfl) Tryz.func78 rfl rfl (zg rfl ?_)
 refine ae.bO s rfl rfl rfl (ff rfl rfl) (fun p1 h s => ?_)
 dsimp only [V.cells,List.length_cons,List.length_nil,Nat.reduceAdd] at s
 refine za rfl (zv (zg rfl (zl rfl (by exact s.dF (k:=0) rfl ew cF) ?_)))
 refine ae.call rfl rfl rfl rfl rfl rfl rfl (nX I s (ng J) U (by decide) (by decide) (by decide) (by omega) (by omega)) ?_
 rintro r h' ⟨rfl,s⟩
 refine za rfl (zv ?_)
 refine WP.ret ⟨trivial,_,rfl,?_⟩
 exact ⟨rfl,s.drop⟩
theorem Nw (I:W told)(s:Sat h S)(J:getA S k=some X)(U:bU X (bZ v l))(hl:l.length=512):
  Call ⟨Tryz.prog,told⟩ 79 [.agg [v]] h fun r h'=>r=.int .i64 (fh l)∧Sat h' S:=by
 have hv:=s.ax J U
 obtain ⟨pi,po,pc,rfl⟩:=gX hv (by omega)
 refine Call.of_wp (I.free _ rfl) Tryz.func79 rfl rfl (zg rfl ?_)
 refine ae.bO s rfl rfl rfl (ff rfl rfl) (fun p1 h s => ?_)
 dsimp only [V.cells,List.length_cons,List.length_nil,Nat.reduceAdd] at s
 refine za rfl (zv (zg rfl (zl rfl (by exact s.dF (k:=0) rfl ew cF) ?_)))
 refine ae.call rfl rfl rfl rfl rfl rfl rfl (nX I s (ng J) U (by decide) (by decide) (by decide) (by omega) (by omega)) ?_
 rintro r h' ⟨rfl,s⟩
 refine za rfl (zv ?_)
 refine WP.ret ⟨trivial,_,rfl,?_⟩
 exact ⟨rfl,s.drop⟩
end
end Go.Proofs.YtconhghphklfjaaGreat.Am
