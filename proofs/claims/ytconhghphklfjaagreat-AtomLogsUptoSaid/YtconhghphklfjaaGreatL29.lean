/- After a crash the log has the records of the groups that are there and no others, with their numbers and data; the conditions are those of the given statement, for arguments that a machine can hold. Part 29 of 54. -/
import Derived.Test.YtconhghphklfjaaGreatL28
namespace Go.Proofs.YtconhghphklfjaaGreat.Am
open Go
structure Lg where
 base:Nat
 b:List Nat
 bE:List Nat
 forced:Nat
 check:Nat
def gz (l:List Nat): List V:=l.map fun (n:Nat)=>V.int .i64 (n:Int)
theorem ox (l:List Nat): (gz l).length=l.length:=by simp [gz]
def mL (p base:Nat)(bv I:V)(forced check:Nat): List V:=[.ptr p 0,.int .u64 (base:Int),bv,I,.int .i64 (forced:Int),.int .u64 (check:Int)]
def bj (q p:Nat)(μ:Lg): ah:=xs fun bv:V=>xs fun I:V=>star [pt q (.cells 6 (mL p μ.base bv I μ.forced μ.check) false),a_ bv μ.b,.arr 1 I (gz μ.bE)]
structure Lg.Ok (μ:Lg): Prop where
 size:μ.base+μ.b.length≤1099511627776
 many:μ.bE.length≤16777216
 low:∀s∈μ.bE,s<μ.b.length
 wW:μ.bE.Pairwise (· < ·)
 forced:μ.forced≤μ.b.length
 len:μ.b.length≤16777216
 check:μ.check≤1099511627776
theorem Pg {P:Program}{h:H}{t:TypeId}{x y:Operand}{a b:Nat}(I:a+b<4611686018427387904): binV P h .quo t x y (.int .i64 ((a:Int)+(b:Int))) (.int .i64 2)=some (.int .i64 (((a+b)/2:Nat):Int)):=by
 simp only [binV,ikBeq,cond_true,intV]
 rw [show intBeq 2 0=false from rfl,cond_false,Int.tdiv_eq_ediv_of_nonneg (by omega),aF (by omega) (by omega)]
 congr 2
section
variable {told:Nat→Option (List V→H→Option (V×H))} {h:H} {S:List ah} {X:ah} {k q p:Nat} {v:V} {l:List Nat} {μ:Lg}
theorem dB : Sat h (bj q p μ::S)↔∃bv I,Sat h (pt q (.cells 6 (mL p μ.base bv I μ.forced μ.check) false)::a_ bv μ.b::.arr 1 I (gz μ.bE)::S):=by
 simp only [bj,eA,cG,List.cons_append,List.nil_append]
theorem lW {P:Program}{t e:TypeId}{cs:List V}{i:Nat}{c:V}(s:Sat h S)(U:getA S k=some (.arr 1 v cs))(hi:cs[i]?=some c)(hu:P.underlying t=some (.slice e))(I:aY P e=some 1):
  ∃id off,indexAddrV P t v (.int .i64 (i:Int))=some (.ptr id off)∧∀t',bx P t'=some false→loadV P h t' (.ptr id off)=some c:=by
 have J:i<cs.length:=(List.getElem?_eq_some_iff.1 hi).1
 obtain ⟨m,r,h1,h2,h3⟩:=s.at U
 rcases h3.2 with ⟨_,rfl⟩ | ⟨id,n,cap,N,rest,rfl,hg,e1,e2,_⟩
 ·simp at hi
 ·refine ⟨id,i,?_,fun t' ht=>FL ht (h1 _ _ hg) ?_⟩
  ·simp only [indexAddrV,hu,I,Int.toNat_natCast]
   rw [show (decide ((0:Int)≤(i:Int))&&decide ((i:Int)<(n:Int)))=true by simp; omega,cond_true]
   simp
  ·rw [dG,List.getElem?_append_left J,hi]
theorem rU (I:W told)(s:Sat h (bj q p μ::S)): Call ⟨Tryz.prog,told⟩ 30 [.ptr q 0] h fun v h'=>v=.int .u64 (μ.base:Int)∧h'=h:=by
 obtain ⟨bv,J,s⟩:=dB.1 s
 refine Call.of_wp (I.free _ rfl) Tryz.func30 rfl rfl (zg rfl (za rfl (zv (zg rfl (zm rfl (zn rfl (zf rfl (iE _ _) (zl rfl (by exact s.ld (k:=0) rfl gP rfl) ?_))))))))
 refine za rfl (zv ?_)
 refine WP.ret ⟨trivial,_,rfl,?_⟩
 exact ⟨rfl,rfl⟩
theorem tR (I:W told)(s:Sat h (bj q p μ::S)): Call ⟨Tryz.prog,told⟩ 60 [.ptr q 0] h fun v h'=>v=.int .u64 (μ.check:Int)∧h'=h:=by
 obtain ⟨bv,J,s⟩:=dB.1 s
 refine Call.of_wp (I.free _ rfl) Tryz.func60 rfl rfl (zg rfl (za rfl (zv (zg rfl (zm rfl (zn rfl (zf rfl (CH _ _) (zl rfl (by exact s.ld (k:=0) rfl gP rfl) ?_))))))))
 refine za rfl (zv ?_)
 refine WP.ret ⟨trivial,_,rfl,?_⟩
 exact ⟨rfl,rfl⟩
theorem nq (I:W told)(s:Sat h (bj q p μ::S))(J:μ.base+μ.b.length≤1099511627776): Call ⟨Tryz.prog,told⟩ 31 [.ptr q 0] h fun v h'=>v=.int .u64 ((μ.base:Int)+(μ.b.length:Int))∧h'=h:=by
 obtain ⟨bv,U,s⟩:=dB.1 s
 refine Call.of_wp (I.free _ rfl) Tryz.func31 rfl rfl (zg rfl (za rfl (zv (zw (WP.drawn [none,none,none,none,none,none,none,none,none,none,none,none] rfl (by kernel_rfl) (by kernel_rfl) ?_)))))
 refine zM rfl (zN rfl (zF rfl (iE _ _) (zL rfl (by exact s.ld (k:=0) rfl gP rfl) ?_)))
 refine zM rfl (zN rfl (zF rfl (cP _ _) (zL rfl (by exact s.ld (k:=0) rfl bg rfl) ?_)))
 refine zO rfl (aL rfl rfl rfl (by exact aG Tryz.underlying32 (s.ax (k:=1) rfl (bk _ _)))) ?_
 refine au.op rfl rfl rfl (by simp only [isEff,Tryz.underlying35]) (bz rfl (by exact gC Tryz.underlying3 Tryz.underlying35 (dM (by omega) (by omega)))) ?_
 refine zO rfl (af rfl rfl (by exact bl (dM (by omega) (by omega)))) ?_
 refine zA rfl ?_
 refine au.nil ⟨⟨trivial,trivial,trivial,trivial,trivial,trivial,trivial,trivial,trivial,trivial,trivial,trivial,trivial⟩,?_⟩
 refine WP.ret ⟨trivial,_,rfl,?_⟩
 exact ⟨rfl,rfl⟩
theorem D6 (I:W told)(s:Sat h (bj q p μ::S))(J:μ.base+μ.b.length≤1099511627776)(U:μ.forced≤μ.b.length): Call ⟨Tryz.prog,told⟩ 34 [.ptr q 0] h fun v h'=>v=.int .u64 ((μ.base:Int)+(μ.forced:Int))∧h'=h:=by
 obtain ⟨bv,sv,s⟩:=dB.1 s
 refine Call.of_wp (I.free _ rfl) Tryz.func34 rfl rfl (zg rfl (za rfl (zv (zw (WP.drawn [none,none,none,none,none,none,none,none,none,none,none] rfl (by kernel_rfl) (by kernel_rfl) ?_)))))
 refine zM rfl (zN rfl (zF rfl (iE _ _) (zL rfl (by exact s.ld (k:=0) rfl gP rfl) ?_)))
 refine zM rfl (zN rfl (zF rfl (o8 _ _) (zL rfl (by exact s.ld (k:=0) rfl cq rfl) ?_)))
 refine au.op rfl rfl rfl (by simp only [isEff,Tryz.underlying35]) (bz rfl (by exact gC Tryz.underlying3 Tryz.underlying35 (dM (by omega) (by omega)))) ?_
 refine zO rfl (af rfl rfl (by exact bl (dM (by omega) (by omega)))) ?_
 refine zA rfl ?_
 refine au.nil ⟨⟨trivial,trivial,trivial,trivial,trivial,trivial,trivial,trivial,trivial,trivial,trivial,trivial⟩,?_⟩
 refine WP.ret ⟨trivial,_,rfl,?_⟩
 exact ⟨rfl,rfl⟩
def Split (μ:Lg)(n i:Nat): Prop:=i≤μ.bE.length∧(∀(j s:Nat),j<i→μ.bE[j]?=some s→μ.base+s<n)∧(∀(j s:Nat),i≤j→μ.bE[j]?=some s→n≤μ.base+s)
theorem wX {l:List Nat}(J:l.Pairwise (· < ·)){i j a b:Nat}(I:i<j)(U:l[i]?=some a)(hb:l[j]?=some b): a<b:=by
 obtain ⟨h1,rfl⟩:=List.getElem?_eq_some_iff.1 U
 obtain ⟨h2,rfl⟩:=List.getElem?_eq_some_iff.1 hb
 exact List.pairwise_iff_getElem.1 J _ _ h1 h2 I
noncomputable def Ty : Code:=cn [1,1,0,0,0] ((Tryz.f99.body).getD .skip)
theorem Gi {bv sv:V}{n:Nat}(hn:n<18446744073709551616)(I:μ.Ok)(s:Sat h (pt q (.cells 6 (mL p μ.base bv sv μ.forced μ.check) false)::a_ bv μ.b::.arr 1 sv (gz μ.bE)::S)): ∀(fuel lo hi:Nat) (E:List (Nat×V)) (Q:Ex→List (Nat×V)→H→Prop),hi-lo≤fuel→lo≤hi→hi≤μ.bE.length →
  (∀(j s:Nat),j<lo→μ.bE[j]?=some s→μ.base+s<n)→(∀(j s:Nat),hi≤j→μ.bE[j]?=some s→n≤μ.base+s) →
  Has E [(0,.ptr q 0),(1,.int .u64 (n:Int)),(5,.int .i64 (lo:Int)),(6,.int .i64 (hi:Int))]→(∀E' i,Split μ n i→look E' 5=some (.int .i64 (i:Int))→Q (.exit 0) E' h)→WP ⟨Tryz.prog,told⟩ 39 (.loop Ty) E h Q:=by
 have D7:=I.many
 have D8:=I.size
 intro fuel
 induction fuel with
 | zero =>
  intro lo hi E Q hf h1 h2 h3 h4 hE hq
  refine WP.loop (WP.has hE (zw (zg rfl (zm rfl (zm rfl (ae.aE rfl rfl rfl (af rfl rfl aX) (by simp; omega) ?_))))))
  refine zv (zj rfl (WP.exit ?_))
  have e:lo=hi:=by omega
  exact hq _ lo ⟨by omega,h3,by rw [e]; exact h4⟩ rfl
 | succ fuel ih =>
  intro lo hi E Q hf h1 h2 h3 h4 hE hq
  by_cases bB:lo<hi
  ·skip
   refine WP.loop (WP.has hE (zw (zg rfl (zm rfl (zm rfl (ae.aR rfl rfl rfl (af rfl rfl aX) (by simp; omega) ?_))))))
   refine zv (zi rfl (WP.skip (WP.block (zg rfl (zm rfl (zm rfl (zb rfl (by exact bl (aF (by omega) (by omega))) ?_)))))))
   refine zb rfl (Pg (by omega)) ?_
   refine za rfl (zv (zw ?_))
   generalize hm:(lo+hi)/2=m
   have qL:lo≤m:=by omega
   have E6:m<hi:=by omega
   obtain ⟨st,J⟩:∃st,μ.bE[m]?=some st:=⟨_,List.getElem?_eq_getElem (by omega)⟩
   have Il:=I.low st (List.mem_of_getElem? J)
   have hlen:=I.len
   have hc:(gz μ.bE)[m]?=some (.int .i64 (st:Int)):=by simp [gz,J]
   obtain ⟨id,off,e1,e2⟩:=lW (P:=Tryz.prog) s (k:=2) rfl hc Tryz.underlying98 jh
   refine WP.drawn [none,none,none,none,none,none,none,none,none,none,none,none,none,none,none] rfl (by kernel_rfl) (by kernel_rfl) ?_
   refine zM rfl (zN rfl (zF rfl (iE _ _) (zL rfl (by exact s.ld (k:=0) rfl gP rfl) ?_)))
   refine zM rfl (zN rfl (zF rfl (jF _ _) (zL rfl (by exact s.ld (k:=0) rfl rN rfl) ?_)))
   refine zM rfl (zO rfl (cH (r:=.ptr id off) rfl rfl e1) (zL rfl (e2 _ cq) (au.op rfl rfl rfl (by simp only [isEff,Tryz.underlying35]) (bz rfl (by exact gC Tryz.underlying3 Tryz.underlying35 (dM (by omega) (by omega)))) ?_)))
   refine zO rfl (af rfl rfl (by exact bl (dM (by omega) (by omega)))) ?_
   refine zM rfl ?_
   by_cases tJ:μ.base+st<n
   ·skip
    refine au.aR rfl rfl rfl rfl (af rfl rfl aX) (by simp; omega) ?_
    refine au.nil ⟨⟨trivial,trivial,trivial,trivial,trivial,trivial,trivial,trivial,trivial,trivial,trivial,trivial,trivial,trivial,trivial,trivial⟩,?_⟩
    refine zi rfl (zr rfl (zm rfl (zb rfl (by exact bl (aF (by omega) (by omega))) ?_)))
    refine za rfl (zv ?_)
    refine ih (m+1) hi _ Q (by omega) (by omega) h2 (fun j s hj hs => ?_) h4 ⟨rfl,rfl,rfl,rfl,trivial⟩ hq
    by_cases U:j=m
    ·subst U; rw [J] at hs; injection hs with hs; omega
    ·have:=wX I.wW (show j<m by omega) hs J; omega
   ·skip
    refine au.aE rfl rfl rfl rfl (af rfl rfl aX) (by simp; omega) ?_
    refine au.nil ⟨⟨trivial,trivial,trivial,trivial,trivial,trivial,trivial,trivial,trivial,trivial,trivial,trivial,trivial,trivial,trivial,trivial⟩,?_⟩
    refine zj rfl (zr rfl (zm rfl (za rfl (zv ?_))))
    refine ih lo m _ Q (by omega) qL (by omega) h3 (fun j s hj hs => ?_) ⟨rfl,rfl,rfl,rfl,trivial⟩ hq
    by_cases U:j=m
    ·subst U; rw [J] at hs; injection hs with hs; omega
    ·have:=wX I.wW (show m<j by omega) J hs; omega
  ·skip
   refine WP.loop (WP.has hE (zw (zg rfl (zm rfl (zm rfl (ae.aE rfl rfl rfl (af rfl rfl aX) (by simp; omega) ?_))))))
   refine zv (zj rfl (WP.exit ?_))
   have e:lo=hi:=by omega
   exact hq _ lo ⟨by omega,h3,by rw [e]; exact h4⟩ rfl
theorem Lp (U:W told){n:Nat}(s:Sat h (bj q p μ::S))(I:μ.Ok)(hn:n<18446744073709551616): Call ⟨Tryz.prog,told⟩ 99 [.ptr q 0,.int .u64 (n:Int)] h fun v h'=>h'=h∧∃i,Split μ n i∧v=.int .i64 (i:Int):=by
 obtain ⟨bv,sv,s⟩:=dB.1 s
 refine Call.of_wp (U.free _ rfl) Tryz.func99 rfl rfl (zg rfl (za rfl (zv (zw (WP.drawn [none,none,none,none,none,none,none] rfl (by kernel_rfl) (by kernel_rfl) ?_)))))
 refine zM rfl (zN rfl (zF rfl (jF _ _) (zL rfl (by exact s.ld (k:=0) rfl rN rfl) ?_)))
 refine zO rfl (aL rfl rfl rfl (s.iH (n:=μ.bE.length) (j:=2) rfl (by rw [ox,Nat.mul_one]) (by decide) Tryz.underlying98)) ?_
 refine zA rfl (zA rfl ?_)
 refine au.nil ⟨⟨trivial,trivial,trivial,trivial,trivial,trivial,trivial,trivial⟩,?_⟩
 refine zw (WP.block ?_)
 refine Gi hn I s μ.bE.length 0 μ.bE.length _ _ (by omega) (by omega) (by omega) (fun j s hj _=>by omega) (fun j s hj hs => ?_) ⟨rfl,rfl,rfl,rfl,trivial⟩ (fun E' i hi J => ?_)
 ·rw [List.getElem?_eq_none (by omega)] at hs; cases hs
 ·skip
  refine WP.has (F:=[(5,.int .i64 (i:Int))]) ⟨J,trivial⟩ (zg rfl (zm rfl (za rfl (zv ?_))))
  refine WP.ret ⟨trivial,_,rfl,?_⟩
  exact ⟨rfl,i,hi,rfl⟩
def Lg.hasB (μ:Lg)(n:Nat): Bool:=μ.bE.any fun s=>decide (μ.base+s=n)
theorem Split.has {n i:Nat}(hs:Split μ n i)(hr:μ.bE.Pairwise (· < ·)): μ.hasB n=true↔∃s,μ.bE[i]?=some s∧μ.base+s=n:=by
 rw [Lg.hasB,List.any_eq_true]
 constructor
 ·rintro ⟨s,U,I⟩
  have I:μ.base+s=n:=by simpa using I
  obtain ⟨j,J⟩:=List.getElem?_of_mem U
  have tD:i≤j:=by
   rcases Nat.lt_or_ge j i with h | h
   ·have:=hs.2.1 j s h J; omega
   ·exact h
  by_cases he:i=j
  ·subst he; exact ⟨s,J,I⟩
  ·have Qi:=(List.getElem?_eq_some_iff.1 J).1
   have hi:μ.bE[i]?=some (μ.bE[i]'(by omega)):=List.getElem?_eq_getElem _
   have h3:=hs.2.2 i _ (Nat.le_refl _) hi
   have h4:=wX hr (show i<j by omega) hi J
   omega
 ·rintro ⟨s,U,I⟩
  exact ⟨s,List.mem_of_getElem? U,by simpa using I⟩
theorem Gj {i st:Nat}(I:μ.bE[i]?=some st): (gz μ.bE)[i]?=some (.int .i64 (st:Int)):=by simp [gz,I]
theorem CS (hT:W told){n:Nat}(s:Sat h (bj q p μ::S))(I:μ.Ok)(hn:n<18446744073709551616): Call ⟨Tryz.prog,told⟩ 56 [.ptr q 0,.int .u64 (n:Int)] h fun v h'=>h'=h∧v=.bool (μ.hasB n):=by
 have s0:=s
 obtain ⟨bv,sv,s⟩:=dB.1 s
 have D7:=I.many
 have D8:=I.size
 refine Call.of_wp (hT.free _ rfl) Tryz.func56 rfl rfl (zg rfl (za rfl (zv (zg rfl (zm rfl (zm rfl (ae.call rfl rfl rfl rfl rfl rfl rfl (Lp hT s0 I hn) ?_)))))))
 rintro v h' ⟨rfl,i,hi,rfl⟩
 have hh:=hi.has I.wW
 refine za rfl (zv (zw (WP.drawn [none,none,none,none,none,none,none,none,none,none,none,none,none,none,none,none,none,none,none,none,none,none,none,none,none] rfl (by kernel_rfl) (by kernel_rfl) ?_)))
 refine zM rfl (zM rfl (zN rfl (zF rfl (jF _ _) (zL rfl (by exact s.ld (k:=0) rfl rN rfl) ?_))))
 refine zO rfl (aL rfl rfl rfl (s.iH (n:=μ.bE.length) (j:=2) rfl (by rw [ox,Nat.mul_one]) (by decide) Tryz.underlying98)) ?_
 by_cases Ag:i<μ.bE.length
 ·skip
  refine au.aR rfl rfl rfl rfl (af rfl rfl aX) (by simp; omega) ?_
  obtain ⟨st,J⟩:∃st,μ.bE[i]?=some st:=⟨_,List.getElem?_eq_getElem Ag⟩
  have Il:=I.low st (List.mem_of_getElem? J)
  obtain ⟨id,off,e1,e2⟩:=lW (P:=Tryz.prog) s (k:=2) rfl (Gj J) Tryz.underlying98 jh
  refine zM rfl (zM rfl (zN rfl (zF rfl (iE _ _) (zL rfl (by exact s.ld (k:=0) rfl gP rfl) ?_))))
  refine zM rfl (zN rfl (zF rfl (jF _ _) (zL rfl (by exact s.ld (k:=0) rfl rN rfl) ?_)))
  refine zM rfl (zO rfl (cH (r:=.ptr id off) rfl rfl e1) (zL rfl (e2 _ cq) (au.op rfl rfl rfl (by simp only [isEff,Tryz.underlying35]) (bz rfl (by exact gC Tryz.underlying3 Tryz.underlying35 (dM (by omega) (by omega)))) ?_)))
  refine zO rfl (af rfl rfl (by exact bl (dM (by omega) (by omega)))) ?_
  refine zM rfl ?_
  by_cases he:μ.base+st=n
  ·skip
   refine au.aR rfl rfl rfl rfl (af rfl rfl cS) (by simp; omega) ?_
   refine zO rfl (sF rfl rfl) (zA rfl ?_)
   refine au.nil ⟨⟨trivial,trivial,trivial,trivial,trivial,trivial,trivial,trivial,trivial,trivial,trivial,trivial,trivial,trivial,trivial,trivial,trivial,trivial,trivial,trivial,trivial,trivial,trivial,trivial,trivial,trivial⟩,?_⟩
   refine WP.ret ⟨trivial,_,rfl,?_⟩
   exact ⟨rfl,by rw [hh.2 ⟨st,J,he⟩]⟩
  ·skip
   refine au.aE rfl rfl rfl rfl (af rfl rfl cS) (by simp; omega) ?_
   refine zO rfl (sF rfl rfl) (zA rfl ?_)
   refine au.nil ⟨⟨trivial,trivial,trivial,trivial,trivial,trivial,trivial,trivial,trivial,trivial,trivial,trivial,trivial,trivial,trivial,trivial,trivial,trivial,trivial,trivial,trivial,trivial,trivial,trivial,trivial,trivial⟩,?_⟩
   refine WP.ret ⟨trivial,_,rfl,?_⟩
   refine ⟨rfl,?_⟩
   cases hb:μ.hasB n with
   | false=>rfl
   | true =>
    obtain ⟨s',U,h2⟩:=hh.1 hb
    rw [J] at U; have:=Option.some.inj U; omega
 ·skip
  refine au.aE rfl rfl rfl rfl (af rfl rfl aX) (by simp; omega) ?_
  refine zM rfl (au.no (e:=false) rfl rfl rfl rfl (au.no (e:=false) rfl rfl rfl rfl (au.no (e:=false) rfl rfl rfl rfl (au.no (e:=false) rfl rfl rfl rfl (au.no (e:=false) rfl rfl rfl rfl (au.no (e:=false) rfl rfl rfl rfl (au.no (e:=false) rfl rfl rfl rfl (au.no (e:=false) rfl rfl rfl rfl (au.no (e:=false) rfl rfl rfl rfl (au.no (e:=false) rfl rfl rfl rfl (au.no (e:=false) rfl rfl rfl rfl (au.no (e:=false) rfl rfl rfl (by simp only [isEff,Tryz.underlying35]) ?_))))))))))))
  refine au.no (e:=false) rfl rfl rfl rfl (au.no (e:=false) rfl rfl rfl rfl (au.no (e:=false) rfl rfl rfl rfl (zO rfl (kA rfl rfl) (zA rfl ?_))))
  refine au.nil ⟨⟨trivial,trivial,trivial,trivial,trivial,trivial,trivial,trivial,trivial,trivial,trivial,trivial,trivial,trivial,trivial,trivial,trivial,trivial,trivial,trivial,trivial,trivial,trivial,trivial,trivial,trivial⟩,?_⟩
  refine WP.ret ⟨trivial,_,rfl,?_⟩
  refine ⟨rfl,?_⟩
  cases hb:μ.hasB n with
  | false=>rfl
  | true =>
   obtain ⟨s',U,h2⟩:=hh.1 hb
   have:=(List.getElem?_eq_some_iff.1 U).1
   omega
theorem Gk (U:W told){n:Nat}{δ:Dk}(s:Sat h (bj q p μ::az p δ::S))(I:μ.Ok)(hf:δ.aJ<4294967296): Call ⟨Tryz.prog,told⟩ 68 [.ptr q 0,.int .u64 (n:Int)] h fun v h' =>
  (n<μ.base+μ.forced∧v=.int .i64 0∧Sat h' (bj q p μ::az p δ::S)) ∨
  (μ.base+μ.forced≤n∧δ.dead=true∧v=.int .i64 9∧Sat h' (bj q p μ::az p δ::S)) ∨
  (μ.base+μ.forced≤n∧δ.dead=false∧δ.aJ=0∧v=.int .i64 9∧Sat h' (bj q p μ::az p δ.die::S)) ∨
  (μ.base+μ.forced≤n∧δ.dead=false∧δ.aJ≠0∧v=.int .i64 0∧Sat h' (bj q p { μ with forced:=μ.b.length }::az p { δ.cO with aT:=δ.log.length }::S)):=by
 have D8:=I.size
 have V4:=I.forced
 have s0:=s
 obtain ⟨bv,sv,s⟩:=dB.1 s
 refine Call.of_wp (U.free _ rfl) Tryz.func68 rfl rfl (zg rfl (za rfl (zv (zw (zg rfl (zm rfl (zm rfl (ae.call rfl rfl rfl rfl rfl rfl rfl (D6 U s0 I.size I.forced) ?_))))))))
 rintro v h' ⟨rfl,rfl⟩
 by_cases bB:n<μ.base+μ.forced
 ·skip
  refine ae.aR rfl rfl rfl (af rfl rfl aX) (by simp; omega) ?_
  refine zv (zi rfl (zg rfl (za rfl (zv ?_))))
  refine WP.ret ⟨trivial,_,rfl,?_⟩
  exact .inl ⟨bB,rfl,s0⟩
 ·have hle:μ.base+μ.forced≤n:=by omega
  refine ae.aE rfl rfl rfl (af rfl rfl aX) (by simp; omega) ?_
  refine zv (zj rfl (WP.skip (zw (zg rfl (zm rfl (zn rfl (zf rfl (CG _ _) (zl rfl (by exact s.ld (k:=0) rfl mF rfl) ?_))))))))
  refine ae.call rfl rfl rfl rfl rfl rfl rfl (xO U (s0.aa [1]) hf) ?_
  rintro v h (⟨J,rfl,s⟩ | ⟨J,h0,rfl,s⟩ | ⟨J,h0,rfl,s⟩)
  ·refine ae.op rfl rfl rfl (c_ rfl) ?_
   refine zv (zg rfl (zm rfl (ae.aR rfl rfl rfl (af rfl rfl aN) (rfl) (zv (zi rfl (zg rfl (zm rfl (za rfl (zv ?_)))))))))
   refine WP.ret ⟨trivial,_,rfl,?_⟩
   exact .inr (.inl ⟨hle,J,rfl,s.aa [1]⟩)
  ·skip
   refine za rfl (zv (zg rfl (zm rfl (ae.aR rfl rfl rfl (af rfl rfl aN) (rfl) (zv (zi rfl (zg rfl (zm rfl (za rfl (zv ?_))))))))))
   refine WP.ret ⟨trivial,_,rfl,?_⟩
   exact .inr (.inr (.inl ⟨hle,J,h0,rfl,s.aa [1]⟩))
  ·skip
   obtain ⟨bv,sv,s⟩:=dB.1 (s.aa [1])
   dsimp only [mL,ai,bringA] at s
   refine za rfl (zv (zg rfl (zm rfl (ae.aE rfl rfl rfl (af rfl rfl aN) (rfl) (zv (zj rfl (WP.skip (zg rfl (zm rfl (zm rfl (zn rfl (zf rfl (cP _ _) (zl rfl (by exact s.ld (k:=0) rfl bg rfl) ?_)))))))))))))
   refine zo rfl (aL rfl rfl rfl (by exact aG Tryz.underlying32 (s.ax (k:=1) rfl (bk _ _)))) ?_
   refine zn rfl (zf rfl (o8 _ _) ?_)
   refine ae.bn rfl rfl rfl rfl rfl (by exact s.cZ (k:=0) rfl jh rfl (by decide) rfl rfl) (fun h s => ?_)
   dsimp only [Nat.reduceAdd,List.set,setA] at s
   refine zv (zg rfl (za rfl (zv ?_)))
   refine WP.ret ⟨trivial,_,rfl,?_⟩
   exact .inr (.inr (.inr ⟨hle,J,h0,rfl,dB.2 ⟨bv,sv,s⟩⟩))
end
end Go.Proofs.YtconhghphklfjaaGreat.Am
namespace Go.Proofs.YtconhghphklfjaaGreat.Am
open Go
structure bV where
 aO:Int
 pos:Int
 whole:Bool
 b:List Nat
def bV.Ok (c:bV): Prop:=0≤c.aO∧c.aO<65536∧0≤c.pos∧c.pos≤512∧(c.b.length:Int)≤512-c.pos∧(c.whole=true→c.pos=0∧c.b.length=512)
instance (c:bV):Decidable c.Ok:=by unfold bV.Ok; infer_instance
def cx (kind:Int)(aA:List bV): Bool:=decide (1≤kind∧kind≤9)&&aA.all fun c=>decide c.Ok
def eC (kd:Int)(tx pv nx:Nat)(dt ch:V): List V:=[.int .i64 kd,.int .u64 (tx:Int),.int .u64 (pv:Int),.int .u64 (nx:Int),dt,ch]
theorem h_ {kd:Int}{tx pv nx:Nat}{dt ch:V}(I:storable dt=true)(J:storable ch=true): (eC kd tx pv nx dt ch).all storable=true:=by
 simp only [eC,List.all_cons,List.all_nil,I,J]
 rfl
def bP : List V→List bV→ah
 | [],[]=>.pu True
 | p::a::w::v::l,x::m=>.an (.an (.pu (p=.int .i64 x.aO∧a=.int .i64 x.pos∧w=.bool x.whole)) (.bp v x.b)) (bP l m)
 | _,_=>.pu False
theorem aq.lK : ∀(m:List bV) (l:List V),aq (bP l m):=by
 intro m
 induction m with
 | nil=>intro l; rcases l with _ | ⟨a,_ | ⟨b,_ | ⟨c,_ | ⟨d,l⟩⟩⟩⟩ <;> exact aq.pu _
 | cons x m I=>intro l; rcases l with _ | ⟨a,_ | ⟨b,_ | ⟨c,_ | ⟨d,l⟩⟩⟩⟩ <;> first | exact aq.pu _ | exact aq.an (aq.an (aq.pu _) (aq.bp _ _)) (I l)
theorem kn {a b:PM}: ∀ {m:List bV} {l:List V},(bP l m).p a b→l.length=m.length*4:=by
 intro m
 induction m with
 | nil=>intro l h; rcases l with _ | ⟨x,_ | ⟨y,_ | ⟨z,_ | ⟨d,l⟩⟩⟩⟩ <;> first | rfl | exact h.elim
 | cons x m I =>
  intro l h
  rcases l with _ | ⟨x,_ | ⟨y,_ | ⟨z,_ | ⟨d,l⟩⟩⟩⟩ <;> first | exact h.elim | skip
  have:=I h.2
  simp only [List.length_cons]
  omega
theorem qh {a b:PM}: ∀ {m m':List bV} {l I:List V},(bP l m).p a b→(bP I m').p a b→(bP (l++I) (m++m')).p a b:=by
 intro m
 induction m with
 | nil=>intro m' l I h h'; rcases l with _ | ⟨x,_ | ⟨y,_ | ⟨z,_ | ⟨d,l⟩⟩⟩⟩ <;> first | exact h' | exact h.elim
 | cons x m J =>
  intro m' l I h h'
  rcases l with _ | ⟨x,_ | ⟨y,_ | ⟨z,_ | ⟨d,l⟩⟩⟩⟩ <;> first | exact h.elim | exact ⟨h.1,J h.2 h'⟩
theorem Ar {a b:PM}: ∀ {m:List bV} {l:List V} {i:Nat} {c:bV},(bP l m).p a b→m[i]?=some c→∃u,(l.drop (i*4)).take 4=[.int .i64 c.aO,.int .i64 c.pos,.bool c.whole,u]∧(ah.bp u c.b).p a b:=by
 intro m
 induction m with
 | nil=>intro l i c h I; simp at I
 | cons x m J =>
  intro l i c h I
  rcases l with _ | ⟨p,_ | ⟨q,_ | ⟨w,_ | ⟨v,l⟩⟩⟩⟩ <;> first | exact h.elim | skip
  obtain ⟨⟨⟨U,h2,h3⟩,h4⟩,h5⟩:=h
  cases i with
  | zero=>simp at I; subst I; exact ⟨v,by rw [U,h2,h3]; rfl,h4⟩
  | succ i =>
   simp at I
   obtain ⟨u,e1,e2⟩:=J h5 I
   refine ⟨u,?_,e2⟩
   rw [←e1,show (i+1)*4=i*4+4 by omega]
   rfl
section
variable {told:Nat→Option (List V→H→Option (V×H))} {h:H} {S:List ah} {X:ah} {k q p:Nat} {v:V} {l:List Nat}
theorem As {ch:V}{cs:List V}{m:List bV}{i:Nat}{c:bV}(s:Sat h (.arr 4 ch cs::bP cs m::S))(U:m[i]?=some c):
  ∃id off u,indexAddrV Tryz.prog 38 ch (.int .i64 (i:Int))=some (.ptr id off)∧loadV Tryz.prog h 54 (.ptr id off)=some (.agg [.int .i64 c.aO,.int .i64 c.pos,.bool c.whole,u]) ∧
   u.cells=[u]∧storable u=true∧u.beq u=true∧Sat h (.bp u c.b::.arr 4 ch cs::bP cs m::S):=by
 obtain ⟨a,b,q1,q2,q3⟩:=s.at (k:=1) rfl
 have Ag:=(List.getElem?_eq_some_iff.1 U).1
 have hl:=kn q3
 obtain ⟨u,e1,e2⟩:=Ar q3 U
 obtain ⟨id,off,g1,J⟩:=F4 (P:=Tryz.prog) (i:=i) s (j:=0) rfl (by omega) (by decide) Tryz.underlying38 mH
 have J:=J DQ
 rw [e1] at J
 have s2:Sat h (bP cs m::.arr 4 ch cs::S):=s.aa [1]
 have s3:=(s2.dup (aq.lK _ _)).dY (B:=.bp u c.b) fun a b h=>by
  obtain ⟨u',I,pE⟩:=Ar h U
  rw [e1] at I
  injection I with _ I
  injection I with _ I
  injection I with _ I
  injection I with I _
  subst I
  exact pE
 have hu:=(s3.ax (k:=0) rfl (bN _ _))
 exact ⟨id,off,u,g1,J,hu.cells.1,hu.cells.2,cg hu,s3.aa [0,1,0]⟩
theorem CT {ch:V}{cs:List V}{m:List bV}{j1 j2:Nat}{P:Program}{t e:TypeId}(s:Sat h S)(I:getA S j1=some (.arr 4 ch cs))(J:getA S j2=some (bP cs m))(hu:P.underlying t=some (.slice e)): lenV P h t ch=some (.int .i64 m.length):=by
 obtain ⟨a,b,q1,q2,U⟩:=s.at J
 exact s.iH I (kn U) (by decide) hu
theorem Sat.pF {ch:V}{cs:List V}{m:List bV}{j1 j2:Nat}{P:Program}{t e:TypeId}(s:Sat h S)(I:getA S j1=some (.arr 4 ch cs))(J:getA S j2=some (bP cs m))(hu:P.underlying t=some (.slice e)): lenV P h t ch=some (.int .i64 m.length):=CT s I J hu
noncomputable def Qp : Code:=cn [1,1,0,1,0,0] ((Tryz.f120.body).getD .skip)
theorem D9 {p1:Nat}{ch:V}{cs:List V}{m:List bV}: ∀(j i:Nat) (h:H) (E:List (Nat×V)) (Q:Ex→List (Nat×V)→H→Prop),i+j=m.length→m.length<4294967296→(∀c∈m,c.b.length<9223372036854775808) →
  (∀c∈m, -4294967296≤c.pos∧c.pos≤4294967296)→Sat h (.arr 4 ch cs::bP cs m::S)→Has E [(1,.ptr p1 0),(14,ch),(15,.int .i64 m.length),(16,.int .i64 i)] →
  ((m.drop i).all (fun c=>decide c.Ok)=false→∀E' h',look E' 2=some (.bool false)→Sat h' (.arr 4 ch cs::bP cs m::S)→Q .ret E' h') →
  ((m.drop i).all (fun c=>decide c.Ok)=true→∀E' h',Sat h' (.arr 4 ch cs::bP cs m::S)→Q (.exit 0) E' h')→WP ⟨Tryz.prog,told⟩ 61 (.loop Qp) E h Q:=by
 intro j
 induction j with
 | zero =>
  intro i h E Q hi hm hb J s hE U hx
  refine WP.loop (WP.has hE (zg rfl (ae.aE rfl rfl rfl (af rfl rfl aX) (by simp; omega) ?_)))
  refine zv (zw (zj rfl (WP.exit ?_)))
  exact hx (by rw [List.drop_eq_nil_of_le (by omega)]; rfl) _ _ s
 | succ j ih =>
  intro i h E Q hi hm hb J s hE U hx
  have hc:m[i]?=some (m[i]'(by omega)):=List.getElem?_eq_getElem _
  generalize (m[i]'(by omega))=c at hc
  have Gl:=List.mem_of_getElem? hc
  have Qq:=hb c Gl
  have Tz:=J c Gl
  have ji:m.drop i=c::m.drop (i+1):=by
   have:=List.getElem?_eq_some_iff.1 hc
   obtain ⟨h1,rfl⟩:=this
   exact List.drop_eq_getElem_cons h1
  rw [ji,List.all_cons] at U hx
  obtain ⟨id,off,u,e1,e2,u1,u2,u3,s⟩:=As s hc
  refine WP.loop (WP.has hE (zg rfl (ae.aR rfl rfl rfl (af rfl rfl aX) (by simp; omega) ?_)))
  refine zv (zw (zi rfl (WP.skip (zw (WP.block (zg rfl (zo rfl (cH (r:=.ptr id off) rfl rfl e1) (zl rfl e2 ?_))))))))
  refine ae.bO s rfl rfl rfl (bK lS) (fun p4 h s => ?_)
  dsimp only [V.cells,List.length_cons,List.length_nil,Nat.reduceAdd] at s
  refine ae.bn rfl rfl rfl rfl rfl (s.eN (j:=0) rfl mH rfl (by simp only [List.all_cons,List.all_nil,u2]; rfl)) ?_
  intro h s
  dsimp only [setA] at s
  refine zv (zw (zg rfl (zf rfl (k_ _ _) (zl rfl (by exact s.ld (k:=0) rfl cq rfl) ?_))))
  refine ae.dh rfl rfl rfl (af rfl rfl aX) ?_ ?_
  ·intro nF
   have nF:c.aO<0:=by simp at nF; omega
   refine zm rfl (zx rfl (zx rfl (zx rfl (zq rfl (zm rfl (zx rfl (zx rfl (zx rfl (zq rfl (zm rfl (zx rfl (zx rfl (zx rfl (zq rfl (zm rfl (zx rfl (zx rfl (zx rfl (zx rfl (zx rfl (zx rfl (zx rfl (zq rfl (zv ?_))))))))))))))))))))))))
   refine zi rfl (zg rfl (za rfl (zv (WP.ret ?_))))
   exact U (by rw [decide_eq_false (fun q:c.Ok=>by have:=q.1; omega),Bool.false_and]) _ _ rfl s.drop.drop
  ·intro nF
   have nF:¬ (c.aO<0):=by simp at nF; omega
   refine zm rfl (zf rfl (k_ _ _) (zl rfl (by exact s.ld (k:=0) rfl cq rfl) ?_))
   refine ae.dh rfl rfl rfl (af rfl rfl kZ) ?_ ?_
   ·intro ve
    have ve:65536≤c.aO:=by simp at ve; omega
    refine zp rfl (zm rfl (zx rfl (zx rfl (zx rfl (zq rfl (zm rfl (zx rfl (zx rfl (zx rfl (zq rfl (zm rfl (zx rfl (zx rfl (zx rfl (zx rfl (zx rfl (zx rfl (zx rfl (zq rfl (zv (zi rfl (zg rfl (za rfl ?_)))))))))))))))))))))))
    refine zv (WP.ret ?_)
    exact U (by rw [decide_eq_false (fun q:c.Ok=>by have:=q.2.1; omega),Bool.false_and]) _ _ rfl s.drop.drop
   ·intro ve
    have ve:¬ (65536≤c.aO):=by simp at ve; omega
    refine zp rfl (zm rfl (zf rfl (mu _ _) (zl rfl (by exact s.ld (k:=0) rfl cq rfl) ?_)))
    refine ae.dh rfl rfl rfl (af rfl rfl aX) ?_ ?_
    ·intro gB
     have gB:c.pos<0:=by simp at gB; omega
     refine zp rfl (zm rfl (zx rfl (zx rfl (zx rfl (zq rfl (zm rfl (zx rfl (zx rfl (zx rfl (zx rfl (zx rfl (zx rfl (zx rfl (zq rfl (zv (zi rfl (zg rfl (za rfl (zv (WP.ret ?_))))))))))))))))))))
     exact U (by rw [decide_eq_false (fun q:c.Ok=>by have:=q.2.2.1; omega),Bool.false_and]) _ _ rfl s.drop.drop
    ·intro gB
     have gB:¬ (c.pos<0):=by simp at gB; omega
     refine zp rfl (zm rfl (zf rfl (mu _ _) (zl rfl (by exact s.ld (k:=0) rfl cq rfl) ?_)))
     refine ae.dh rfl rfl rfl (af rfl rfl dS) ?_ ?_
     ·intro Gm
      have Gm:512<c.pos:=by simp at Gm; omega
      refine zp rfl (zm rfl (zx rfl (zx rfl (zx rfl (zx rfl (zx rfl (zx rfl (zx rfl (zq rfl (zv (zi rfl (zg rfl (za rfl (zv (WP.ret ?_)))))))))))))))
      exact U (by rw [decide_eq_false (fun q:c.Ok=>by have:=q.2.2.2.1; omega),Bool.false_and]) _ _ rfl s.drop.drop
     ·intro Gm
      have Gm:¬ (512<c.pos):=by simp at Gm; omega
      refine zp rfl (zm rfl (zf rfl (jY _ _) (zl rfl (by exact s.ld (k:=0) rfl bg rfl) ?_)))
      refine zo rfl (aL rfl rfl rfl (by exact aG Tryz.underlying32 (s.ax (k:=1) rfl (bN _ _)))) ?_
      refine zf rfl (mu _ _) (zl rfl (by exact s.ld (k:=0) rfl cq rfl) ?_)
      refine zb rfl (by exact lR (aF (by omega) (by omega))) ?_
      refine ae.dh rfl rfl rfl (af rfl rfl dS) ?_ ?_
      ·intro Gn
       have Gn:512-c.pos<(c.b.length:Int):=by simp at Gn; omega
       refine zp rfl (zv (zi rfl (zg rfl (za rfl (zv (WP.ret ?_))))))
       exact U (by rw [decide_eq_false (fun q:c.Ok=>by have:=q.2.2.2.2.1; omega),Bool.false_and]) _ _ rfl s.drop.drop
      ·intro Gn
       have Gn:¬ (512-c.pos<(c.b.length:Int)):=by simp at Gn; omega
       refine zp rfl (zv (zj rfl (WP.skip (zg rfl (zf rfl (rK _ _) ?_)))))
       have mQ:∀(h:H) (E:List (Nat×V)),c.Ok→Sat h (.arr 4 ch cs::bP cs m::S)→Has E [(1,.ptr p1 0),(14,ch),(15,.int .i64 m.length),(16,.int .i64 ((i:Int)+1))]→WP ⟨Tryz.prog,told⟩ 61 (.loop Qp) E h Q:=by
        intro h E mM s hE
        rw [decide_eq_true mM,Bool.true_and] at U hx
        exact ih (i+1) h E Q (by omega) hm hb J s hE U hx
       have EY:c.whole=false∨c.whole=true:=by cases c.whole <;> simp
       rcases EY with hw | hw
       ·skip
        refine ae.aE rfl rfl rfl (aI rfl (by exact s.ld (k:=0) rfl gU rfl)) (hw) ?_
        refine zm rfl (zx rfl (zx rfl (zx rfl (zx rfl (zx rfl (zx rfl (zx rfl (zx rfl (zx rfl (zp rfl (zv (zj rfl (WP.skip (zr rfl (zb rfl (by exact bl (aF (by omega) (by omega))) ?_)))))))))))))))
        refine zm rfl (zv ?_)
        refine mQ _ _ ?_ ?_ ?_
        ·exact ⟨by omega,by omega,by omega,by omega,by omega,fun e=>by rw [hw] at e; cases e⟩
        ·exact s.drop.drop
        ·exact ⟨rfl,rfl,rfl,rfl,trivial⟩
       ·skip
        refine ae.aR rfl rfl rfl (aI rfl (by exact s.ld (k:=0) rfl gU rfl)) (hw) ?_
        refine zm rfl (zf rfl (mu _ _) (zl rfl (by exact s.ld (k:=0) rfl cq rfl) ?_))
        refine ae.dh rfl rfl rfl (af rfl rfl aN) ?_ ?_
        ·intro hp
         have hp:c.pos≠0:=by simp at hp; omega
         refine zm rfl (zx rfl (zx rfl (zx rfl (zx rfl (zq rfl (zq rfl (zv (zi rfl (zg rfl (za rfl (zv (WP.ret ?_))))))))))))
         exact U (by rw [decide_eq_false (fun q:c.Ok=>hp (q.2.2.2.2.2 hw).1),Bool.false_and]) _ _ rfl s.drop.drop
        ·intro hp
         have hp:c.pos=0:=by simp at hp; omega
         refine zm rfl (zf rfl (jY _ _) (zl rfl (by exact s.ld (k:=0) rfl bg rfl) ?_))
         refine zo rfl (aL rfl rfl rfl (by exact aG Tryz.underlying32 (s.ax (k:=1) rfl (bN _ _)))) ?_
         refine ae.dh rfl rfl rfl (af rfl rfl aN) ?_ ?_
         ·intro I
          have I:c.b.length≠512:=by simp at I; omega
          refine zp rfl (zq rfl (zv (zi rfl (zg rfl (za rfl (zv (WP.ret ?_)))))))
          exact U (by rw [decide_eq_false (fun q:c.Ok=>I (q.2.2.2.2.2 hw).2),Bool.false_and]) _ _ rfl s.drop.drop
         ·intro I
          have I:c.b.length=512:=by simp at I; omega
          refine zp rfl (zq rfl (zv (zj rfl (WP.skip (zr rfl (zb rfl (by exact bl (aF (by omega) (by omega))) ?_))))))
          refine zm rfl (zv ?_)
          refine mQ _ _ ?_ ?_ ?_
          ·exact ⟨by omega,by omega,by omega,by omega,by omega,fun _=>⟨hp,I⟩⟩
          ·exact s.drop.drop
          ·exact ⟨rfl,rfl,rfl,rfl,trivial⟩
def rV (m:List bV): Prop:=m.length<4294967296∧(∀c∈m,c.b.length<4294967296)∧(∀c∈m, -4294967296≤c.pos∧c.pos≤4294967296)
theorem Au (hT:W told){kd:Int}{tx pv nx:Nat}{dt ch:V}{cs:List V}{m:List bV}(s:Sat h (.arr 4 ch cs::bP cs m::S))(hd:storable dt=true)(hm:rV m):
  Call ⟨Tryz.prog,told⟩ 120 [.agg (eC kd tx pv nx dt ch)] h fun r h'=>r=.bool (cx kd m)∧Sat h' (.arr 4 ch cs::bP cs m::S):=by
 have j5:=s.gx (j:=0) rfl
 have fK:=h_ (kd:=kd) (tx:=tx) (pv:=pv) (nx:=nx) hd j5.2.1
 refine Call.of_wp (hT.free _ rfl) Tryz.func120 rfl rfl (zg rfl (ae.bO s rfl rfl rfl (ff rfl fK) ?_))
 intro p1 h s
 dsimp only [V.cells] at s
 refine za rfl (zv (zw (zg rfl (zf rfl (jX _ _) (zl rfl (by exact s.ld (k:=0) rfl cq rfl) ?_)))))
 refine ae.dh rfl rfl rfl (af rfl rfl aX) ?_ ?_
 ·intro J
  have J:kd<1:=by simpa using J
  refine zm rfl (zx rfl (zx rfl (zx rfl (zq rfl (zv (zi rfl (zg rfl (za rfl (zv ?_)))))))))
  refine WP.ret ⟨trivial,_,rfl,?_⟩
  exact ⟨by rw [cx,decide_eq_false (by omega),Bool.false_and],s.drop⟩
 ·intro J
  have J:1≤kd:=by simpa using J
  refine zm rfl (zf rfl (jX _ _) (zl rfl (by exact s.ld (k:=0) rfl cq rfl) ?_))
  refine ae.dh rfl rfl rfl (af rfl rfl dS) ?_ ?_
  ·intro I
   have I:9<kd:=by simpa using I
   refine zp rfl (zv (zi rfl (zg rfl (za rfl (zv ?_)))))
   refine WP.ret ⟨trivial,_,rfl,?_⟩
   exact ⟨by rw [cx,decide_eq_false (by omega),Bool.false_and],s.drop⟩
  ·intro I
   have I:kd≤9:=by simpa using I
   refine zp rfl (zv (zj rfl (WP.skip (zw (zg rfl (zf rfl (iX _ _) (zl rfl (by exact s.ld (k:=0) rfl nN rfl) ?_)))))))
   refine zo rfl (aL rfl rfl rfl (CT s (j1:=1) (j2:=2) rfl rfl Tryz.underlying38)) (zm rfl (zv (WP.block ?_)))
   have hg:cx kd m=m.all (fun c=>decide c.Ok):=by rw [cx,decide_eq_true ⟨J,I⟩,Bool.true_and]
   refine D9 m.length 0 _ _ _ (by omega) hm.1 (fun c hc=>by have:=hm.2.1 c hc; omega) hm.2.2 s.drop ⟨rfl,rfl,rfl,rfl,trivial⟩ (fun U E' h' h2 s' => ?_) (fun U E' h' s' => ?_)
   ·rw [hg]
    rw [List.drop_zero] at U
    rw [U]
    exact ⟨trivial,_,oO h2,rfl,s'⟩
   ·rw [hg]
    rw [List.drop_zero] at U
    rw [U]
    refine WP.has (F:=[]) trivial (zg rfl (za rfl (zv ?_)))
    refine WP.ret ⟨trivial,_,rfl,?_⟩
    exact ⟨rfl,s'⟩
end
end Go.Proofs.YtconhghphklfjaaGreat.Am
