/- After a crash the log has the records of the groups that are there and no others, with their numbers and data; the conditions are those of the given statement, for arguments that a machine can hold. Part 25 of 54. -/
import Derived.Test.YtconhghphklfjaaGreatL24
namespace Go.Proofs.YtconhghphklfjaaGreat.Am
open Go
section
variable {told:Nat→Option (List V→H→Option (V×H))} {h:H} {S:List ah} {X:ah} {p:Nat} {δ:Dk}
theorem fR (J:W told){x:V}{l:List Nat}(s:Sat h (X::S))(I:bU X (bZ x l))(U:l.length<1073741824):
  Call ⟨Tryz.prog,told⟩ 65 [x] h fun v h'=>Sat h' (a_ v l::X::S):=by
 refine Call.of_wp (J.free _ rfl) Tryz.func65 rfl rfl (zg rfl (za rfl (zv (zg rfl (zm rfl (zo rfl (aL rfl rfl rfl (aG Tryz.underlying32 (s.ax (k:=0) rfl I))) (ae.any rfl rfl rfl (OpR.o_ rfl s rfl rfl rfl rfl U) ?_)))))))
 intro v h s
 refine zm rfl (ae.any rfl rfl rfl (OpR.mI rfl s I rfl rfl rfl rfl (by simp; omega)) ?_)
 intro v h s
 refine za rfl (zv ?_)
 refine WP.ret ⟨trivial,_,rfl,?_⟩
 exact s
theorem qd (J:W told){x:V}{l:List Nat}(s:Sat h (X::S))(I:bU X (bZ x l))(U:l.length<1073741824):
  Call ⟨Tryz.prog,told⟩ 93 [x] h fun v h'=>Sat h' (a_ v l::X::S):=by
 refine Call.of_wp (J.free _ rfl) Tryz.func93 rfl rfl (zg rfl (za rfl (zv (zg rfl (zm rfl (zo rfl (aL rfl rfl rfl (aG Tryz.underlying32 (s.ax (k:=0) rfl I))) (ae.any rfl rfl rfl (OpR.o_ rfl s rfl rfl rfl rfl U) ?_)))))))
 intro v h s
 refine zm rfl (ae.any rfl rfl rfl (OpR.mI rfl s I rfl rfl rfl rfl (by simp; omega)) ?_)
 intro v h s
 refine za rfl (zv ?_)
 refine WP.ret ⟨trivial,_,rfl,?_⟩
 exact s
theorem iQ (J:W told){x:V}{l:List Nat}(s:Sat h (X::S))(I:bU X (bZ x l))(U:l.length<1073741824):
  Call ⟨Tryz.prog,told⟩ 44 [x] h fun v h'=>Sat h' (a_ v l::X::S):=by
 refine Call.of_wp (J.free _ rfl) Tryz.func44 rfl rfl (zg rfl (za rfl (zv (zg rfl (zm rfl (zo rfl (aL rfl rfl rfl (aG Tryz.underlying32 (s.ax (k:=0) rfl I))) (ae.any rfl rfl rfl (OpR.o_ rfl s rfl rfl rfl rfl U) ?_)))))))
 intro v h s
 refine zm rfl (ae.any rfl rfl rfl (OpR.mI rfl s I rfl rfl rfl rfl (by simp; omega)) ?_)
 intro v h s
 refine za rfl (zv ?_)
 refine WP.ret ⟨trivial,_,rfl,?_⟩
 exact s
theorem uv (I:W told)(s:Sat h (az p δ::S)): Call ⟨Tryz.prog,told⟩ 55 [.ptr p 0] h fun v h'=>v=.int .i64 (δ.aj.length:Int)∧h'=h:=by
 obtain ⟨pg,wt,J,lg,mk,U,tl,ops,s⟩:=aQ.1 s
 obtain ⟨id,cs,rfl,s'⟩:=dP.1 (s.aa [1])
 refine Call.of_wp (I.free _ rfl) Tryz.func55 rfl rfl (zg rfl (za rfl (zv (zg rfl (zm rfl (zn rfl (zf rfl (i_ _ _) (zl rfl (by exact s.ld (k:=0) rfl mg rfl) ?_))))))))
 refine zo rfl (aL rfl rfl rfl (by exact kF rfl Tryz.underlying119)) ?_
 refine za rfl (zv ?_)
 refine WP.ret ⟨trivial,_,rfl,?_⟩
 exact ⟨rfl,rfl⟩
theorem Gb (U:W told){n:Int}(s:Sat h (az p δ::S)): Call ⟨Tryz.prog,told⟩ 128 [.ptr p 0,.int .i64 n] h fun v h'=>h'=h∧((0≤n∧n<δ.aj.length∧v=.bool true)∨(¬(0≤n∧n<δ.aj.length)∧v=.bool false)):=by
 obtain ⟨pg,wt,nw,lg,mk,tn,tl,ops,s⟩:=aQ.1 s
 obtain ⟨id,cs,rfl,s'⟩:=dP.1 (s.aa [1])
 refine Call.of_wp (U.free _ rfl) Tryz.func128 rfl rfl (zg rfl (za rfl (zv (zg rfl (zm rfl ?_)))))
 refine ae.dh rfl rfl rfl (af rfl rfl kZ) ?_ ?_
 ·intro J
  have J:0≤n:=by simpa using J
  refine zm rfl (zm rfl (zm rfl (zn rfl (zf rfl (i_ _ _) (zl rfl (by exact s.ld (k:=0) rfl mg rfl) ?_)))))
  refine zo rfl (aL rfl rfl rfl (by exact kF rfl Tryz.underlying119)) ?_
  refine ae.dh rfl rfl rfl (af rfl rfl aX) ?_ ?_
  ·intro I
   have I:n<δ.aj.length:=by simpa using I
   refine zq rfl (za rfl (zv ?_))
   refine WP.ret ⟨trivial,_,rfl,?_⟩
   exact ⟨rfl,.inl ⟨J,I,rfl⟩⟩
  ·intro I
   have I:¬ n<δ.aj.length:=by simpa using I
   refine zq rfl (za rfl (zv ?_))
   refine WP.ret ⟨trivial,_,rfl,?_⟩
   exact ⟨rfl,.inr ⟨fun h=>I h.2,rfl⟩⟩
 ·intro J
  have J:¬ 0≤n:=by simpa using J
  refine zm rfl (zx rfl (zx rfl (zx rfl (zx rfl (zx rfl (zx rfl (zx rfl (zp rfl (za rfl (zv ?_))))))))))
  refine WP.ret ⟨trivial,_,rfl,?_⟩
  exact ⟨rfl,.inr ⟨fun h=>J h.1,rfl⟩⟩
def Dk.qf (δ:Dk): Nat:=δ.aT
def Dk.cO (δ:Dk): Dk:={ δ with aJ:=if 0<δ.aJ then δ.aJ-1 else δ.aJ }
def Dk.die (δ:Dk): Dk:={ δ with dead:=true }
theorem kH (hT:W told)(s:Sat h (az p δ::S))(hf:δ.aJ<4294967296):
  Call ⟨Tryz.prog,told⟩ 118 [.ptr p 0] h fun v h'=>(δ.aJ=0∧v=.bool false∧Sat h' (az p δ.die::S))∨(δ.aJ≠0∧v=.bool true∧Sat h' (az p δ.cO::S)):=by
 obtain ⟨pg,wt,U,lg,mk,tn,tl,ops,s⟩:=aQ.1 s
 refine Call.of_wp (hT.free _ rfl) Tryz.func118 rfl rfl (zg rfl (za rfl (zv (zw (zg rfl (zm rfl (zn rfl (zf rfl (sJ _ _) (zl rfl (by exact s.ld (k:=0) rfl cq rfl) ?_)))))))))
 refine ae.dh rfl rfl rfl (af rfl rfl cS) ?_ ?_
 ·intro J
  refine zv (zi rfl (zg rfl (zm rfl (zn rfl (zf rfl (gI _ _) ?_)))))
  refine ae.bn rfl rfl rfl rfl rfl (by exact s.cZ (k:=0) rfl qK rfl (by decide) rfl rfl) (fun h s => ?_)
  dsimp only [Nat.reduceAdd,setA] at s
  refine zv (zg rfl (za rfl (zv ?_)))
  refine WP.ret ⟨trivial,_,rfl,?_⟩
  have J:δ.aJ=0:=by simpa using J
  exact .inl ⟨J,rfl,aQ.2 ⟨pg,wt,U,lg,mk,tn,tl,ops,s⟩⟩
 ·intro J
  have J:δ.aJ≠0:=by simpa using J
  refine zv (zj rfl (WP.skip (zw (zg rfl (zm rfl (zn rfl (zf rfl (sJ _ _) (zl rfl (by exact s.ld (k:=0) rfl cq rfl) ?_))))))))
  refine ae.dh rfl rfl rfl (af rfl rfl dS) ?_ ?_
  ·intro I
   have I:0<δ.aJ:=by simpa using I
   refine zv (zi rfl (zr rfl (zm rfl (zn rfl (zf rfl (sJ _ _) (zl rfl (by exact s.ld (k:=0) rfl cq rfl) ?_))))))
   refine zb rfl (by exact lR (aF (by omega) (by omega))) ?_
   refine zn rfl (zf rfl (sJ _ _) ?_)
   refine ae.bn rfl rfl rfl rfl rfl (by exact s.cZ (k:=0) rfl jh rfl (by decide) rfl rfl) (fun h s => ?_)
   dsimp only [Nat.reduceAdd,setA] at s
   refine zv (zg rfl (zm rfl (zn rfl (zf rfl (sK _ _) (zl rfl (by exact s.ld (k:=0) rfl cq rfl) ?_)))))
   refine zb rfl (by rfl) ?_
   refine zn rfl (zf rfl (sK _ _) ?_)
   refine ae.bn rfl rfl rfl rfl rfl (by exact s.cZ (k:=0) rfl jh rfl (by decide) rfl rfl) (fun h s => ?_)
   dsimp only [Nat.reduceAdd,setA] at s
   refine zv (zg rfl (za rfl (zv ?_)))
   refine WP.ret ⟨trivial,_,rfl,?_⟩
   exact .inr ⟨J,rfl,aQ.2 ⟨pg,wt,U,lg,mk,tn,tl,_,by simp only [Dk.cO,if_pos I]; exact s⟩⟩
  ·intro I
   have I:¬ 0<δ.aJ:=by simpa using I
   refine zv (zj rfl (WP.skip (zg rfl (zm rfl (zn rfl (zf rfl (sK _ _) (zl rfl (by exact s.ld (k:=0) rfl cq rfl) ?_)))))))
   refine zb rfl (by rfl) ?_
   refine zn rfl (zf rfl (sK _ _) ?_)
   refine ae.bn rfl rfl rfl rfl rfl (by exact s.cZ (k:=0) rfl jh rfl (by decide) rfl rfl) (fun h s => ?_)
   dsimp only [Nat.reduceAdd,setA] at s
   refine zv (zg rfl (za rfl (zv ?_)))
   refine WP.ret ⟨trivial,_,rfl,?_⟩
   exact .inr ⟨J,rfl,aQ.2 ⟨pg,wt,U,lg,mk,tn,tl,_,by simp only [Dk.cO,if_neg I]; exact s⟩⟩
def Dk.at (δ:Dk)(n:Int): List Nat:=match lookL n δ.now with
 | some b=>b
 | none=>match δ.aj[n.toNat]? with
  | some (some b)=>b
  | _=>List.replicate 512 0
theorem D2 {v:V}{m:List (Option (List Nat))}{i:Nat}(s:Sat h (j4 v m::S))(hi:i<m.length):
  ∃id u,v=.sl id 0 m.length (.exact m.length)∧(∀(P:Program) (t:TypeId),bx P t=some false→loadV P h t (.ptr id i)=some u)∧Sat h (hO u m[i]::j4 v m::S):=by
 obtain ⟨id,cs,rfl,s1⟩:=dP.1 s
 obtain ⟨a,b,q1,q2,I⟩:=s1.at (k:=1) rfl
 have hl:=nU I
 have hu:cs[i]?=some (cs[i]'(by omega)):=List.getElem?_eq_getElem _
 have s2:Sat h (each hO cs m::pt id (.cells m.length cs false)::S):=s1.aa [1]
 have J:=s2.dup (aq.each aq.hO cs m)
 have U:Sat h (hO (cs[i]'(by omega)) m[i]::each hO cs m::pt id (.cells m.length cs false)::S):=J.dY fun a b h=>Ak h hu (List.getElem?_eq_getElem hi)
 refine ⟨id,cs[i]'(by omega),rfl,fun P t ht=>FL ht (s1.row (k:=0) rfl) (by rw [dG,hu]),?_⟩
 have s5:Sat h (pt id (.cells m.length cs false)::each hO cs m::hO (cs[i]'(by omega)) m[i]::S):=U.aa [2,1]
 exact (dP.2 ⟨id,cs,rfl,s5⟩:Sat h (j4 _ m::hO (cs[i]'(by omega)) m[i]::S)).aa [1]
theorem Ir (hT:W told){n:Int}(s:Sat h (az p δ::S))(hl:(δ.at n).length=512): Call ⟨Tryz.prog,told⟩ 96 [.ptr p 0,.int .i64 n] h fun v h' =>
  (δ.dead=true∧v=.aW [.aH,.int .i64 9]∧Sat h' (az p δ::S)) ∨
  (δ.dead=false∧¬(0≤n∧n<δ.aj.length)∧v=.aW [.aH,.int .i64 1]∧Sat h' (az p δ::S)) ∨
  (δ.dead=false∧0≤n∧n<δ.aj.length∧∃b,v=.aW [b,.int .i64 0]∧Sat h' (a_ b (δ.at n)::az p δ::S)):=by
 have s0:=s
 obtain ⟨pg,wt,nw,lg,mk,tn,tl,ops,s⟩:=aQ.1 s
 refine Call.of_wp (hT.free _ rfl) Tryz.func96 rfl rfl (zg rfl (za rfl (za rfl (zv (zw (WP.block (zg rfl (zm rfl (zn rfl (zf rfl (gI _ _) (zl rfl (by exact s.ld (k:=0) rfl gU rfl) ?_)))))))))))
 refine za rfl (zv ?_)
 refine WP.split rfl ?_ ?_
 ·intro hd
  refine zg rfl (za rfl (za rfl (zv ?_)))
  refine WP.ret ⟨trivial,_,rfl,?_⟩
  exact .inl ⟨hd,rfl,s0⟩
 ·intro hd
  refine zg rfl (zm rfl (zm rfl (ae.call rfl rfl rfl rfl rfl rfl rfl (Gb hT s0) ?_)))
  rintro v h' ⟨rfl,(⟨J,U,rfl⟩ | ⟨hn,rfl⟩)⟩
  ·skip
   refine zo rfl (dA rfl rfl) (za rfl (zv (zj rfl (WP.skip (zg rfl (zm rfl (zn rfl (zf rfl (sI _ _) (zl rfl (by exact s.ld (k:=0) rfl iD rfl) ?_)))))))))
   refine zm rfl ?_
   have s1:Sat h' (fE (fun v b=>.bp v b) nw δ.now::pt p (.cells 12 (lI δ.room pg wt nw lg δ.aT mk δ.aJ ops δ.dead tn tl) false)::j4 pg δ.aj::sU wt δ.waiting::a_ lg δ.log::tP mk δ.mark::sV tn δ.gQ::tP tl δ.tail::S):=s.aa [3]
   rcases iL (n:=n) (fun _ _=>aq.bp _ _) s1 Tryz.underlying86 Tryz.underlying3 rI with ⟨g1,g2,_⟩ | ⟨u,b,g1,g2,_,s2⟩
   ·refine ae.op rfl rfl rfl (fo rfl rfl g2) ?_
    refine zm rfl (ze rfl (ze rfl (za rfl (za rfl (zv (zw (zg rfl (zm rfl (zo rfl (dA rfl rfl) (zv (zi rfl (zr rfl (zm rfl (zn rfl (zf rfl (i_ _ _) (zl rfl (by exact s.ld (k:=0) rfl mg rfl) ?_))))))))))))))))
    refine zm rfl ?_
    have hi:n.toNat<δ.aj.length:=by omega
    obtain ⟨id,u,rfl,g3,s3⟩:=D2 (s.aa [1]) hi
    refine zo rfl (cH (r:=.ptr id n.toNat) rfl rfl (by rw [JZ,show (decide (0≤n)&&decide (n<((δ.aj.length:Nat):Int)))=true by simp; omega,cond_true]; simp)) ?_
    refine zl rfl (g3 _ _ bg) (za rfl (zv (zw (zg rfl (zm rfl ?_)))))
    have I:δ.at n=match δ.aj[n.toNat] with | some b=>b | none=>List.replicate 512 0:=by
     simp only [Dk.at,g1,List.getElem?_eq_getElem hi]
     cases δ.aj[n.toNat] <;> rfl
    cases hp:δ.aj[n.toNat] with
    | none =>
     rw [hp] at s3 I
     have I:δ.at n=List.replicate 512 0:=I
     obtain ⟨rfl,_⟩:=cL.1 s3
     refine ae.aR rfl rfl rfl ((by exact af rfl rfl (by simp only [binV,eqV,Tryz.underlying32]; rfl))) (rfl) ?_
     refine zv (zi rfl (zg rfl (ae.any rfl rfl rfl (OpR.yQ rfl s0 rfl rfl rfl rfl (by decide)) ?_)))
     intro v h s
     refine za rfl (za rfl (zv ?_))
     refine WP.ret ⟨trivial,_,rfl,?_⟩
     exact .inr (.inr ⟨hd,J,U,v,rfl,by rw [I]; exact s⟩)
    | some b =>
     rw [hp] at s3 I
     have I:δ.at n=b:=I
     have s4:Sat h' (ah.an (.pu (u≠.aH)) (.bp u b)::j4 _ δ.aj::_):=s3
     have hu:u≠.aH:=by
      obtain ⟨a,b,q1,q2,q3⟩:=s4.at (k:=0) rfl
      exact q3.1
     have s5:Sat h' (.bp u b::az p δ::S):=by
      have s6:=s4.dY (B:=.bp u b) fun a b h=>h.2
      exact (aQ.2 ⟨_,wt,nw,lg,mk,tn,tl,ops,s6.aa [2,1,1,1,1,1,1,1]⟩:Sat h' (az p δ::.bp u b::S)).aa [1]
     have xN:∃a b c d,u=.sl a b c d:=by
      rcases (s5.ax (k:=0) rfl (bN _ _)).2 with ⟨_,e⟩ | ⟨a,b,c,_,_,_,e,_⟩
      ·rw [I,e] at hl; simp at hl
      ·exact ⟨_,_,_,_,e⟩
     obtain ⟨a,b',c,d,rfl⟩:=xN
     refine ae.aE rfl rfl rfl ((by exact af rfl rfl (by simp only [binV,eqV,Tryz.underlying32]; rfl))) (rfl) ?_
     refine zv (zj rfl (WP.skip (zg rfl (zm rfl (ae.call rfl rfl rfl rfl rfl rfl rfl (fR hT s5 (bN _ _) (by rw [←I,hl]; decide)) ?_)))))
     intro v h s
     refine za rfl (za rfl (zv ?_))
     refine WP.ret ⟨trivial,_,rfl,?_⟩
     exact .inr (.inr ⟨hd,J,U,v,rfl,by rw [I]; exact s.del 1⟩)
   ·skip
    refine zo rfl (fo rfl rfl g2) (zm rfl (ze rfl (ze rfl (za rfl (za rfl (zv (zw (zg rfl (zm rfl (zo rfl (dA rfl rfl) (zv (zj rfl (WP.skip (zw (zg rfl (zm rfl ?_))))))))))))))))
    have I:δ.at n=b:=by simp only [Dk.at,g1]
    have xN:∃a b c d,u=.sl a b c d:=by
     rcases (s2.ax (k:=0) rfl (bN _ _)).2 with ⟨_,e⟩ | ⟨a,b,c,_,_,_,e,_⟩
     ·rw [I,e] at hl; simp at hl
     ·exact ⟨_,_,_,_,e⟩
    obtain ⟨a,b',c,d,rfl⟩:=xN
    refine ae.aE rfl rfl rfl ((by exact af rfl rfl (by simp only [binV,eqV,Tryz.underlying32]; rfl))) (rfl) ?_
    refine zv (zj rfl (WP.skip (zg rfl (zm rfl (ae.call rfl rfl rfl rfl rfl rfl rfl (fR hT s2 (bN _ _) (by rw [←I,hl]; decide)) ?_)))))
    intro v h s
    refine za rfl (za rfl (zv ?_))
    refine WP.ret ⟨trivial,_,rfl,?_⟩
    have s:=aQ.2 ⟨pg,wt,nw,lg,mk,tn,tl,ops,s.aa [3,3,3,2,2,2,2,2]⟩
    exact .inr (.inr ⟨hd,J,U,v,rfl,by rw [I]; exact (s.del 2).aa [1,0]⟩)
  ·skip
   refine zo rfl (dA rfl rfl) (za rfl (zv (zi rfl (zg rfl (za rfl (za rfl (zv ?_)))))))
   refine WP.ret ⟨trivial,_,rfl,?_⟩
   exact .inr (.inl ⟨hd,hn,rfl,s0⟩)
theorem tQ (I:W told)(s:Sat h (az p δ::S)): Call ⟨Tryz.prog,told⟩ 105 [.ptr p 0] h fun v h'=>v=.int .i64 (δ.qf:Int)∧h'=h:=by
 obtain ⟨pg,wt,J,lg,mk,U,tl,ops,s⟩:=aQ.1 s
 refine Call.of_wp (I.free _ rfl) Tryz.func105 rfl rfl (zg rfl (za rfl (zv (zg rfl (zm rfl (zn rfl (zf rfl (ni _ _) (zl rfl (by exact s.ld (k:=0) rfl cq rfl) ?_))))))))
 refine za rfl (zv ?_)
 refine WP.ret ⟨trivial,_,rfl,?_⟩
 exact ⟨rfl,rfl⟩
theorem Al (I:W told)(s:Sat h (az p δ::S)): Call ⟨Tryz.prog,told⟩ 35 [.ptr p 0] h fun v h'=>v=.bool δ.dead∧h'=h:=by
 obtain ⟨pg,wt,J,lg,mk,U,tl,ops,s⟩:=aQ.1 s
 refine Call.of_wp (I.free _ rfl) Tryz.func35 rfl rfl (zg rfl (za rfl (zv (zg rfl (zm rfl (zn rfl (zf rfl (gI _ _) (zl rfl (by exact s.ld (k:=0) rfl gU rfl) ?_))))))))
 refine za rfl (zv ?_)
 refine WP.ret ⟨trivial,_,rfl,?_⟩
 exact ⟨rfl,rfl⟩
theorem xO (U:W told)(s:Sat h (az p δ::S))(hf:δ.aJ<4294967296): Call ⟨Tryz.prog,told⟩ 106 [.ptr p 0] h fun v h' =>
  (δ.dead=true∧v=.int .i64 9∧Sat h' (az p δ::S))∨(δ.dead=false∧δ.aJ=0∧v=.int .i64 9∧Sat h' (az p δ.die::S)) ∨
  (δ.dead=false∧δ.aJ≠0∧v=.int .i64 0∧Sat h' (az p { δ.cO with aT:=δ.log.length }::S)):=by
 have s0:=s
 obtain ⟨pg,wt,nw,lg,mk,tn,tl,ops,s⟩:=aQ.1 s
 refine Call.of_wp (U.free _ rfl) Tryz.func106 rfl rfl (zg rfl (za rfl (zv (zw (zg rfl (zm rfl (zn rfl (zf rfl (gI _ _) ?_))))))))
 refine ae.dh rfl rfl rfl (aI rfl (by exact s.ld (k:=0) rfl gU rfl)) ?_ ?_
 ·intro I
  refine zm rfl (zx rfl (zx rfl (zx rfl (zq rfl (zv (zi rfl (zg rfl (za rfl (zv ?_)))))))))
  refine WP.ret ⟨trivial,_,rfl,?_⟩
  exact .inl ⟨I,rfl,s0⟩
 ·intro I
  refine zm rfl (zm rfl (ae.call rfl rfl rfl rfl rfl rfl rfl (kH U s0 hf) ?_))
  rintro v h (⟨J,rfl,s⟩ | ⟨J,rfl,s⟩)
  ·skip
   refine zo rfl (dA rfl rfl) (zp rfl (zv (zi rfl (zg rfl (za rfl (zv ?_))))))
   refine WP.ret ⟨trivial,_,rfl,?_⟩
   exact .inr (.inl ⟨I,J,rfl,s⟩)
  ·skip
   obtain ⟨pg,wt,nw,lg,mk,tn,tl,ops,s⟩:=aQ.1 s
   dsimp only [Dk.cO] at s
   refine zo rfl (dA rfl rfl) (zp rfl (zv (zj rfl (WP.skip (zg rfl (zm rfl (zm rfl (zn rfl (zf rfl (gH _ _) (zl rfl (by exact s.ld (k:=0) rfl bg rfl) ?_))))))))))
   refine zo rfl (aL rfl rfl rfl (by exact aG Tryz.underlying32 (s.ax (k:=4) rfl (bk _ _)))) ?_
   refine zn rfl (zf rfl (ni _ _) ?_)
   refine ae.bn rfl rfl rfl rfl rfl (by exact s.cZ (k:=0) rfl jh rfl (by decide) rfl rfl) (fun h s => ?_)
   dsimp only [Nat.reduceAdd,setA] at s
   refine zv (zg rfl (za rfl (zv ?_)))
   refine WP.ret ⟨trivial,_,rfl,?_⟩
   exact .inr (.inr ⟨I,J,rfl,aQ.2 ⟨pg,wt,nw,lg,mk,tn,tl,ops,s⟩⟩)
theorem D3 (hT:W told){x:V}{b:List Nat}(s:Sat h (az p δ::X::S))(hX:bU X (bZ x b))(hb:b.length<1073741824)(hf:δ.aJ<4294967296)(hl:δ.log.length≤4294967296)(hr:δ.room≤4294967296):
  Call ⟨Tryz.prog,told⟩ 89 [.ptr p 0,x] h fun v h' =>
  (δ.dead=true∧v=.int .i64 9∧Sat h' (az p δ::X::S))∨(δ.dead=false∧δ.room<δ.log.length+b.length∧v=.int .i64 7∧Sat h' (az p δ::X::S)) ∨
  (δ.dead=false∧δ.log.length+b.length≤δ.room∧δ.aJ=0∧v=.int .i64 9∧Sat h' (az p { δ.die with tail:=b }::X::S)) ∨
  (δ.dead=false∧δ.log.length+b.length≤δ.room∧δ.aJ≠0∧v=.int .i64 0∧Sat h' (az p { δ.cO with log:=δ.log++b }::X::S)):=by
 have s0:=s
 obtain ⟨pg,wt,nw,lg,mk,tn,tl,ops,s⟩:=aQ.1 s
 refine Call.of_wp (hT.free _ rfl) Tryz.func89 rfl rfl (zg rfl (za rfl (zv (zw (WP.block (zg rfl (zm rfl (zn rfl (zf rfl (gI _ _) ?_)))))))))
 refine ae.dh rfl rfl rfl (aI rfl (by exact s.ld (k:=0) rfl gU rfl)) ?_ ?_
 ·intro J
  refine za rfl (zv (zi rfl (zg rfl (za rfl (zv ?_)))))
  refine WP.ret ⟨trivial,_,rfl,?_⟩
  exact .inl ⟨J,rfl,s0⟩
 ·intro J
  refine za rfl (zv (zj rfl (zw (WP.drawn [none,none,none,none,none,none,none,none,none,none,none,none,none,none] rfl (by kernel_rfl) (by kernel_rfl) ?_))))
  refine zM rfl (zO rfl (aL rfl rfl rfl (by exact aG Tryz.underlying32 (s.ax (k:=8) rfl hX))) ?_)
  refine zM rfl (zN rfl (zF rfl (CI _ _) (zL rfl (by exact s.ld (k:=0) rfl cq rfl) ?_)))
  refine zM rfl (zN rfl (zF rfl (gH _ _) (zL rfl (by exact s.ld (k:=0) rfl bg rfl) ?_)))
  refine zO rfl (aL rfl rfl rfl (by exact aG Tryz.underlying32 (s.ax (k:=4) rfl (bk _ _)))) ?_
  refine zO rfl (af rfl rfl (by exact lR (aF (by omega) (by omega)))) ?_
  refine au.dh rfl rfl rfl rfl (af rfl rfl dS) ?_ ?_
  ·intro I
   have I:δ.room<δ.log.length+b.length:=by simp at I; omega
   refine zA rfl ?_
   refine au.nil ⟨⟨trivial,trivial,trivial,trivial,trivial,trivial,trivial,trivial,trivial,trivial,trivial,trivial,trivial,trivial,trivial⟩,?_⟩
   refine zi rfl (zg rfl (za rfl (zv ?_)))
   refine WP.ret ⟨trivial,_,rfl,?_⟩
   exact .inr (.inl ⟨J,I,rfl,s0⟩)
  ·intro I
   have I:δ.log.length+b.length≤δ.room:=by simp at I; omega
   refine zA rfl ?_
   refine au.nil ⟨⟨trivial,trivial,trivial,trivial,trivial,trivial,trivial,trivial,trivial,trivial,trivial,trivial,trivial,trivial,trivial⟩,?_⟩
   refine zj rfl (zg rfl (zm rfl (ae.call rfl rfl rfl rfl rfl rfl rfl (kH hT s0 hf) ?_)))
   rintro v h (⟨h0,rfl,s⟩ | ⟨h0,rfl,s⟩)
   ·skip
    refine zo rfl (dA rfl rfl) (za rfl (zv (zi rfl (zg rfl (zm rfl (zm rfl (ae.call rfl rfl rfl rfl rfl rfl rfl (fR hT (s.aa [1]) hX hb) ?_)))))))
    intro v h s
    have s:=(s.eF).aa [2,0,0]
    obtain ⟨pg,wt,nw,lg,mk,tn,tl,ops,s⟩:=aQ.1 s
    have U:=(s.ax (k:=8) rfl (bN _ _)).cells
    refine zn rfl (zf rfl (uo _ _) (ae.bn rfl rfl rfl rfl rfl (s.cZ (k:=0) rfl ig rfl (by decide) U.1 U.2) ?_))
    intro h s
    refine zv (zg rfl (za rfl (zv ?_)))
    refine WP.ret ⟨trivial,_,rfl,?_⟩
    exact .inr (.inr (.inl ⟨J,I,h0,rfl,aQ.2 ⟨pg,wt,nw,lg,mk,tn,v,ops,s.del 7⟩⟩))
   ·skip
    obtain ⟨pg,wt,nw,lg,mk,tn,tl,ops,s⟩:=aQ.1 s
    dsimp only [Dk.cO] at s
    refine zo rfl (dA rfl rfl) (za rfl (zv (zj rfl (WP.skip (zg rfl (zm rfl (zm rfl (zn rfl (zf rfl (gH _ _) (zl rfl (by exact s.ld (k:=0) rfl bg rfl) ?_))))))))))
    refine zm rfl (ae.any rfl rfl rfl (OpR.mI rfl (s.aa [4,7]) hX rfl rfl rfl rfl (by show δ.log.length+_≤_; omega)) ?_)
    intro v h s
    have U:=(s.buf (k:=0) rfl).view.cells
    refine zn rfl (zf rfl (gH _ _) (ae.bn rfl rfl rfl rfl rfl (s.cZ (k:=2) rfl ig rfl (by decide) U.1 U.2) ?_))
    intro h s
    refine zv (zg rfl (za rfl (zv ?_)))
    refine WP.ret ⟨trivial,_,rfl,?_⟩
    exact .inr (.inr (.inr ⟨J,I,h0,rfl,aQ.2 ⟨pg,wt,nw,v,mk,tn,tl,ops,s.aa [2,2,2,2,0,1,1,1]⟩⟩))
end
end Go.Proofs.YtconhghphklfjaaGreat.Am
