/- After a crash the log has the records of the groups that are there and no others, with their numbers and data; the conditions are those of the given statement, for arguments that a machine can hold. Part 50 of 54. -/
import Derived.Test.YtconhghphklfjaaGreatL49
namespace Go.Proofs.YtconhghphklfjaaGreat.Am
open Go
def szB : List b9→Nat
 | []=>0
 | r::l=>r.len+szB l
theorem gT : ∀ {rs:List b9} {n:Nat},(logB n rs).length=szB rs:=by
 intro rs
 induction rs with
 | nil=>intro n; rfl
 | cons r rs I=>intro n; simp only [logB,szB,List.length_append,mC,I]; rfl
theorem tf {x y:List b9}: szB (x++y)=szB x+szB y:=by
 induction x with
 | nil=>simp [szB]
 | cons r x I=>simp only [List.cons_append,szB,I]; omega
theorem A8 {y:List b9}: ∀ {x:List b9} {n:Nat},logB n (x++y)=logB n x++logB (n+szB x) y:=by
 intro x
 induction x with
 | nil=>intro n; simp [logB,szB]
 | cons r x I=>intro n; simp only [List.cons_append,logB,szB,I,List.append_assoc,Nat.add_assoc]
theorem qA {y:List b9}: ∀ {x:List b9} {a:Nat},fF a (x++y)=fF a x++fF (a+szB x) y:=by
 intro x
 induction x with
 | nil=>intro a; simp [fF,szB]
 | cons r x I=>intro a; simp only [List.cons_append,fF,szB,I,Nat.add_assoc]
theorem yj : ∀ {rs:List b9} {a:Nat},(fF a rs).Pairwise (· < ·)∧∀s∈fF a rs,a≤s∧s<a+szB rs:=by
 intro rs
 induction rs with
 | nil=>intro a; exact ⟨List.Pairwise.nil,by simp [fF]⟩
 | cons r rs J =>
  intro a
  obtain ⟨U,I⟩:=J (a:=a+r.len)
  have h8:8≤r.len:=by rw [b9.len]; omega
  simp only [fF,szB,List.pairwise_cons,List.mem_cons]
  refine ⟨⟨fun s hs=>by have:=I s hs; omega,U⟩,?_⟩
  rintro s (rfl | hs)
  ·omega
  ·have:=I s hs; omega
theorem qB : ∀ {rs:List b9} {a:Nat},(fF a rs).length=rs.length:=by
 intro rs
 induction rs with
 | nil=>intro a; rfl
 | cons r rs I=>intro a; simp only [fF,List.length_cons,I]
theorem Py : ∀ {rs:List b9},rs.length*8≤szB rs:=by
 intro rs
 induction rs with
 | nil=>simp
 | cons r rs I=>have:8≤r.len:=(by rw [b9.len]; omega); simp only [szB,List.length_cons]; omega
theorem C9 {base aK:Nat}{rs:List b9}(I:base+szB rs≤1099511627776)(J:szB rs≤16777216)(U:aK≤1099511627776): (fy base aK rs).Ok:=by
 have h4:=Py (rs:=rs)
 refine ⟨?_,?_,?_,(yj (a:=0)).1,?_,?_,U⟩
 ·show base+(logB base rs).length≤_; rw [gT]; exact I
 ·show (fF 0 rs).length≤_; rw [qB]; omega
 ·intro s hs
  have:=(yj (a:=0) (rs:=rs)).2 s hs
  show s<(logB base rs).length
  rw [gT]; omega
 ·exact Nat.le_refl _
 ·show (logB base rs).length≤_; rw [gT]; exact J
theorem Jl {base aK:Nat}{bA cU:List b9}{r:b9}: (fy base aK (bA++r::cU)).hasB (base+szB bA)=true:=by
 rw [Lg.hasB,List.any_eq_true]
 refine ⟨szB bA,?_,by simp [fy]⟩
 show szB bA∈fF 0 (bA++r::cU)
 rw [qA,Nat.zero_add]
 exact List.mem_append.2 (.inr List.mem_cons_self)
def yU (n:Nat)(aA:List bV)(ρ:fL): fL:=aA.foldl (fun ρ c=>chgF n c ρ) ρ
def redoL : Nat→List b9→fL→fL
 | _,[],ρ=>ρ
 | n,r::l,ρ=>redoL (n+r.len) l (yU n r.aA ρ)
theorem yl {α:Type}{n:Int}{a:α}: ∀ {l:List (Int×α)} {e:Int×α},e∈cA n a l→e=(n,a)∨e∈l:=vV
structure fL.Ok (ρ:fL): Prop where
 len:∀e∈ρ.aj,e.2.length=512
 low:∀k∈ρ.aj.map (·.1),(0:Int)≤k∧k<65536
 dup:(ρ.aj.map (·.1)).Nodup
theorem C_ {n:Nat}{c:bV}{ρ:fL}(h:ρ.Ok)(I:c.Ok): (chgF n c ρ).Ok:=by
 have U:c.whole=true→c.pos=0∧c.b.length=512:=I.2.2.2.2.2
 have key:∀b:List Nat,b.length=512→∀L,(fL.mk (cA c.aO b ρ.aj) L).Ok:=fun b hb L=>by
  refine ⟨fun e he => ?_,fun k hk => ?_,fQ h.dup⟩
  ·rcases yl he with rfl | he
   ·exact hb
   ·exact h.len e he
  ·rcases lV.1 hk with rfl | hk
   ·exact ⟨I.1,I.2.1⟩
   ·exact h.low k hk
 unfold chgF
 split
 ·rename_i hw
  exact key _ (U hw).2 _
 ·split
  ·exact h
  ·rename_i b hb
   have J:=h.len _ (fc hb)
   simp only at J
   have:=I.2.2.1
   have:=I.2.2.2.2.1
   refine key _ ?_ _
   rw [fO (by omega),J]
theorem A9 {n:Nat}: ∀ {aA:List bV} {ρ:fL},ρ.Ok→(∀c∈aA,c.Ok)→(yU n aA ρ).Ok:=by
 intro aA
 induction aA with
 | nil=>intro ρ h _; exact h
 | cons c aA J=>intro ρ h I; exact J (C_ h (I c List.mem_cons_self)) (fun x U=>I x (List.mem_cons_of_mem _ U))
theorem b9.Ok.aA {r:b9}(h:r.Ok): ∀c∈r.aA,c.Ok:=by
 have:=h.good
 simp only [cx,Bool.and_eq_true,List.all_eq_true,decide_eq_true_eq] at this
 exact this.2
theorem A_ : ∀ {rs:List b9} {n:Nat} {ρ:fL},ρ.Ok→(∀r∈rs,r.Ok)→(redoL n rs ρ).Ok:=by
 intro rs
 induction rs with
 | nil=>intro n ρ h _; exact h
 | cons r rs J=>intro n ρ h I; exact J (A9 h (I r List.mem_cons_self).aA) (fun x U=>I x (List.mem_cons_of_mem _ U))
def lF (ρ:fL)(k:Int): Nat:=(lookL k ρ.jS).getD 0
def againW (ρ:fL): List Int→Dk→Int×Dk
 | [],δ=>(0,δ)
 | k::l,δ =>
  match lookL k ρ.aj with
  | some b=>if bu b=true∧k<δ.aj.length then (if (δ.bF k (cj b (lF ρ k))).1≠0 then δ.bF k (cj b (lF ρ k)) else againW ρ l (δ.bF k (cj b (lF ρ k))).2) else againW ρ l δ
  | none=>againW ρ l δ
def jA (ρ:fL)(δ:Dk): Int×Dk :=
 if (againW ρ (ck ρ.aj) δ).1≠0 then againW ρ (ck ρ.aj) δ else if ρ.aj=[] then (0,(againW ρ (ck ρ.aj) δ).2) else (againW ρ (ck ρ.aj) δ).2.lD
section
variable {told:Nat→Option (List V→H→Option (V×H))} {h:H} {S:List ah} {X:ah} {ch fv v op dv:V} {cs:List V} {a p q r x n base aK c0:Nat} {ρ:fL} {δ:Dk}
noncomputable def UE : Code:=cn [1,1,1,0,1,0,0,0,1,1,0,1,0,0] ((Tryz.f62.body).getD .skip)
theorem Hg (hT:W told){aA:List bV}(kx:∀c∈aA,c.Ok){av nv:V}: ∀(j i:Nat) (ρ:fL) (h:H) (E:List (Nat×V)) (Q:Ex→List (Nat×V)→H→Prop),i+j=aA.length→aA.length<4294967296→ρ.Ok →
  Sat h (qy x ρ::.arr 4 ch cs::bP cs aA::S) →
  Has E [(0,av),(5,.ptr x 0),(6,.fn (.func 107) [.ptr x 0] []),(7,.int .u64 (n:Int)),(9,nv),(38,ch),(39,.int .i64 aA.length),(40,.int .i64 i)] →
  (∀E' h',Has E' [(0,av),(5,.ptr x 0),(6,.fn (.func 107) [.ptr x 0] []),(9,nv)]→Sat h' (qy x (yU n (aA.drop i) ρ)::.arr 4 ch cs::bP cs aA::S)→Q (.exit 2) E' h') →
  WP ⟨Tryz.prog,told⟩ 110 (.loop UE) E h Q:=by
 intro j
 induction j with
 | zero =>
  intro i ρ h E Q hi hl I s hE hq
  refine WP.loop (WP.has hE (zg rfl (ae.aE rfl rfl rfl (af rfl rfl aX) (by simp; omega) ?_)))
  refine zv (zw (zj rfl (WP.exit ?_)))
  exact hq _ _ ⟨rfl,rfl,rfl,rfl,trivial⟩ (by rw [List.drop_of_length_le (by omega)]; exact s)
 | succ j ih =>
  intro i ρ h E Q hi hl I s hE hq
  have hc:aA[i]?=some (aA[i]'(by omega)):=List.getElem?_eq_getElem _
  generalize (aA[i]'(by omega))=c at hc
  have U:=kx c (List.mem_of_getElem? hc)
  have J:aA.drop i=c::aA.drop (i+1):=by
   obtain ⟨h1,rfl⟩:=List.getElem?_eq_some_iff.1 hc
   exact List.drop_eq_getElem_cons h1
  obtain ⟨id,off,u,e1,e2,u1,u2,u3,s⟩:=As (s.aa [1,1]) hc
  dsimp only [ai,bringA] at s
  refine WP.loop (WP.has hE (zg rfl (ae.aR rfl rfl rfl (af rfl rfl aX) (by simp; omega) ?_)))
  refine zv (zw (zi rfl (WP.skip (zw (WP.block (zg rfl (zo rfl (cH (r:=.ptr id off) rfl rfl e1) (zl rfl e2 ?_))))))))
  refine ae.bO s rfl rfl rfl (bK lS) (fun NC h s => ?_)
  dsimp only [V.cells,List.length_cons,List.length_nil,Nat.reduceAdd] at s
  refine ae.bn rfl rfl rfl rfl rfl (s.eN (j:=0) rfl mH rfl (by simp only [List.all_cons,List.all_nil,u2]; rfl)) ?_
  rintro h s
  dsimp only [setA] at s
  refine zv (zr rfl (zm rfl (zm rfl (zl rfl (by exact s.dF (k:=0) rfl DQ mH) ?_))))
  refine ae.call rfl rfl rfl rfl rfl rfl rfl (Hf (n:=n) hT I.len U (s.aa [4,1])) ?_
  rintro v h ⟨rfl,s⟩
  dsimp only [ai,bringA] at s
  refine zv (zr rfl (zb rfl (by exact bl (aF (by omega) (by omega))) ?_))
  refine zm rfl (zv ?_)
  have s:=(s.aa [0,2,2]).del 3
  have s:=s.del 3
  dsimp only [bringA,getA,ai] at s
  refine ih (i+1) (chgF n c ρ) _ _ Q (by omega) hl (C_ I U) s ⟨rfl,rfl,rfl,rfl,rfl,rfl,rfl,rfl,trivial⟩ (fun E' h' fu s'=>hq E' h' fu ?_)
  rw [J]
  exact s'
theorem uH (U:WR told){bA cU:List b9}{r:b9}(J:(fy base aK (bA++r::cU)).Ok)(I:r.Ok)(s:Sat h (bj q p (fy base aK (bA++r::cU))::S)):
  Call ⟨Tryz.prog,told⟩ 20 [.ptr q 0,.int .u64 ((base+szB bA:Nat):Int)] h fun v h'=>∃dt ch cs,v=.aW [.agg (eC r.kd r.tx r.pv r.nx dt ch),.int .u64 ((base+szB bA+r.len:Nat):Int),.int .i64 0] ∧
   Sat h' (bj q p (fy base aK (bA++r::cU))::a_ dt r.data::.arr 4 ch cs::bP cs r.aA::S):=by
 refine (GX (n:=base+szB bA) (a:=szB bA) (pre:=logB base bA) (rest:=logB (base+szB bA+r.len) cU) U I.good I.kd I.rd rfl I.len gT ?_ rfl Jl J s).mono fun v h' hx => ?_
 ·show logB base (bA++r::cU)=_
  rw [A8,logB]
  rfl
 ·have e:base+szB bA+r.len=base+szB bA+8+(cy r.kd r.tx r.pv r.nx r.data r.aA).length:=by rw [b9.len,b9.bd]; omega
  rw [e]
  exact hx
noncomputable def UF : Code:=cn [1,1,1,0,1,0,0] ((Tryz.f62.body).getD .skip)
theorem EA (hT:WR told){rs:List b9}{wv:Nat}(om:∀r∈rs,r.Ok)(I:(fy base aK rs).Ok): ∀(cU bA:List b9) (ρ:fL) (h:H) (E:List (Nat×V)) (Q:Ex→List (Nat×V)→H→Prop),rs=bA++cU→ρ.Ok →
  Sat h (qy x ρ::pt a (.cells 6 (j6 a p q r op dv wv) false)::bj q p (fy base aK rs)::S) →
  Has E [(0,.ptr a 0),(5,.ptr x 0),(6,.fn (.func 107) [.ptr x 0] []),(7,.int .u64 ((base+szB bA:Nat):Int))] →
  (∀E' h',Has E' [(0,.ptr a 0),(5,.ptr x 0)]→Sat h' (qy x (redoL (base+szB bA) cU ρ)::pt a (.cells 6 (j6 a p q r op dv wv) false)::bj q p (fy base aK rs)::S)→Q (.exit 0) E' h') →
  WP ⟨Tryz.prog,told⟩ 110 (.loop UF) E h Q:=by
 have hW:=hT.w
 intro cU
 induction cU with
 | nil =>
  intro bA ρ h E Q he J s U hq
  refine WP.loop (WP.has U ?_)
  have s:=s.aa [1,1,0]
  dsimp only [j6,bringA,getA,ai] at s
  have ee:=I.size
  have hn:base+szB bA=(fy base aK rs).base+(fy base aK rs).b.length:=by
   show _=base+(logB base rs).length
   rw [gT,he,List.append_nil]
  refine WP.block (zg rfl (zm rfl (zn rfl (zf rfl (rL _ _) (zl rfl (by exact s.ld (k:=0) rfl wL rfl) ?_)))))
  refine zm rfl (ae.call rfl rfl rfl rfl rfl rfl rfl (vT (n:=base+szB bA) hW (s.aa [1]) I (by omega) (.inl hn)) ?_)
  rintro v h ⟨e,UG,rfl,s⟩
  refine zm rfl (ze rfl (ze rfl (ze rfl ?_)))
  refine ae.bO s rfl rfl rfl (bK jP) (fun p8 h s => ?_)
  dsimp only [V.cells,List.length_cons,List.length_nil,Nat.reduceAdd,ai,bringA] at s
  refine ae.bn rfl rfl rfl rfl rfl (by exact s.eN (j:=0) rfl dK rfl rfl) (fun h s => ?_)
  dsimp only [setA] at s
  refine za rfl (za rfl (zv (zw (zg rfl (zm rfl (ae.aR rfl rfl rfl (af rfl rfl aN) (by simp; exact UG) ?_))))))
  refine zv (zi rfl (WP.exit ?_))
  exact hq _ _ ⟨rfl,rfl,trivial⟩ ((s.drop).aa [2,1,0])
 | cons y cU ih =>
  intro bA ρ h E Q he J s U hq
  subst he
  have hy:=om y (by simp)
  refine WP.loop (WP.has U ?_)
  have s:=s.aa [1,1,0]
  dsimp only [j6,bringA,getA,ai] at s
  refine WP.block (zg rfl (zm rfl (zn rfl (zf rfl (rL _ _) (zl rfl (by exact s.ld (k:=0) rfl wL rfl) ?_)))))
  refine zm rfl (ae.call rfl rfl rfl rfl rfl rfl rfl (uH (bA:=bA) (cU:=cU) (r:=y) hT I hy (s.aa [1])) ?_)
  rintro v h ⟨dt,ch,cs,rfl,s⟩
  dsimp only [ai,bringA] at s
  have lz:=(s.buf (k:=1) rfl).view.cells
  have j5:=s.gx (j:=2) rfl
  have fK:[V.int .i64 (y.kd:Int),V.int .u64 (y.tx:Int),V.int .u64 (y.pv:Int),V.int .u64 (y.nx:Int),dt,ch].all storable=true:=h_ lz.2 j5.2.1
  refine zm rfl (ze rfl (ze rfl (ze rfl ?_)))
  refine ae.bO s rfl rfl rfl (bK jP) (fun p8 h s => ?_)
  dsimp only [V.cells,List.length_cons,List.length_nil,Nat.reduceAdd] at s
  refine ae.bn rfl rfl rfl rfl rfl (s.eN (j:=0) rfl dK rfl fK) ?_
  rintro h s
  dsimp only [setA] at s
  refine za rfl (za rfl (zv (zw (zg rfl (zm rfl (ae.aE rfl rfl rfl (af rfl rfl aN) (rfl) (zv (zj rfl (WP.skip (zw (zg rfl (zf rfl (iX _ _) (zl rfl (by exact s.ld (k:=0) rfl nN rfl) ?_)))))))))))))
  refine zo rfl (aL rfl rfl rfl (s.pF (j1:=3) (j2:=4) rfl rfl Tryz.underlying38)) (zm rfl (zv (WP.block ?_)))
  have s:=s.aa [6,3,3,3,1]
  dsimp only [bringA,getA,ai] at s
  refine Hg (n:=base+szB bA) hW hy.aA y.aA.length 0 ρ h _ _ (by omega) (by have:=hy.rd.many; omega) J s ⟨rfl,rfl,rfl,rfl,rfl,rfl,rfl,rfl,trivial⟩ (fun E h U s => ?_)
  rw [List.drop_zero] at s
  refine WP.has U (zr rfl (zm rfl (za rfl (zv ?_))))
  have s:=(((s.del 6).del 5).aa [0,2,2]).del 3
  have s:=s.del 3
  dsimp only [ai,bringA,getA] at s
  refine ih (bA++[y]) (yU (base+szB bA) y.aA ρ) _ _ Q (by simp) (A9 J hy.aA) s ⟨rfl,rfl,rfl,?_,trivial⟩ (fun E' h' fu s'=>hq E' h' fu ?_)
  ·rw [tf]
   show some (V.int .u64 ((base+szB bA+y.len:Nat):Int))=_
   rw [show base+(szB bA+szB [y])=base+szB bA+y.len by simp only [szB]; omega]
  ·rw [redoL,show base+szB bA+y.len=base+szB (bA++[y]) by rw [tf]; simp only [szB]; omega]
   exact s'
structure kr (δ:Dk)(m:Nat): Prop where
 ok:δ.Ok
 wait:δ.waiting.length+m≤268435456
 now:∀e∈δ.now,0≤e.1∧e.1<δ.aj.length
theorem kr.less {δ:Dk}{m:Nat}(h:kr δ (m+1)): kr δ m:=⟨h.ok,by have:=h.wait; omega,h.now⟩
theorem kr.write {δ:Dk}{m:Nat}{k:Int}{b:List Nat}(h:kr δ (m+1))(h0:0≤k)(h1:k<δ.aj.length): kr (δ.bF k b).2 m∧(δ.bF k b).2.aj=δ.aj:=by
 have hw:=h.wait
 have I:=h.ok.bF (n:=k) (b:=b)
 unfold Dk.bF at I ⊢
 split at I
 ·rename_i J
  rw [if_pos J]
  exact ⟨⟨I,by simp only; omega,h.now⟩,rfl⟩
 ·rename_i J
  rw [if_neg J]
  split at I
  ·rename_i U
   rw [if_pos U]
   exact ⟨⟨I,by simp only; omega,h.now⟩,rfl⟩
  ·rename_i U
   rw [if_neg U]
   split at I
   ·rename_i h3
    rw [if_pos h3]
    exact ⟨⟨I,by show δ.waiting.length+m≤_; omega,h.now⟩,rfl⟩
   ·rename_i h3
    rw [if_neg h3]
    refine ⟨⟨I,?_,fun e he => ?_⟩,rfl⟩
    ·show (δ.waiting++[(k.toNat,b)]).length+m≤_
     simp only [List.length_append,List.length_cons,List.length_nil]; omega
    ·rcases yl he with rfl | he
     ·exact ⟨h0,h1⟩
     ·exact h.now e he
noncomputable def UH : Code:=cn [1,1,1,1,0,1,0,0] ((Tryz.f62.body).getD .skip)
theorem Cd (hT:W told){ks:List Int}{kv:V}{i0 j0 wv:Nat}(QH:ks.length≤65536)(Iw:∀k∈ks,0≤k)(GK:∀k∈ks,(lookL k ρ.aj).isSome=true)(hlen:∀e∈ρ.aj,e.2.length=512): ∀(j i:Nat) (δ:Dk) (h:H) (E:List (Nat×V)) (Q:Ex→List (Nat×V)→H→Prop),i+j=ks.length→kr δ j →
  Sat h (pt x (.cells 2 [.map i0,.map j0] false)::fE (fun v b=>.bp v b) (.map i0) ρ.aj::fE uG (.map j0) ρ.jS::.arr 1 kv (dO ks)::pt a (.cells 6 (j6 a p q r op dv wv) false)::az p δ::S) →
  Has E [(0,.ptr a 0),(5,.ptr x 0),(55,kv),(56,.int .i64 ks.length),(57,.int .i64 i)] →
  (∀E' h',(againW ρ (ks.drop i) δ).1≠0→look E' 4=some (.int .i64 (againW ρ (ks.drop i) δ).1)→Sat h' (pt a (.cells 6 (j6 a p q r op dv wv) false)::az p (againW ρ (ks.drop i) δ).2::S)→Q .ret E' h') →
  (∀E' h',(againW ρ (ks.drop i) δ).1=0→kr (againW ρ (ks.drop i) δ).2 0→Has E' [(0,.ptr a 0),(5,.ptr x 0)]→Sat h' (pt x (.cells 2 [.map i0,.map j0] false)::fE (fun v b=>.bp v b) (.map i0) ρ.aj::pt a (.cells 6 (j6 a p q r op dv wv) false)::az p (againW ρ (ks.drop i) δ).2::S)→Q (.exit 4) E' h') →
  WP ⟨Tryz.prog,told⟩ 110 (.loop UH) E h Q:=by
 intro j
 induction j with
 | zero =>
  intro i δ h E Q hi I s hE J U
  rw [List.drop_of_length_le (by omega)] at J U
  refine WP.loop (WP.has hE (zg rfl (ae.aE rfl rfl rfl (af rfl rfl aX) (by simp; omega) ?_)))
  refine zv (zw (zj rfl (WP.exit ?_)))
  exact U _ _ rfl I ⟨rfl,rfl,trivial⟩ ((s.aa [0,0,2,2]).del 5 |>.del 4)
 | succ j ih =>
  intro i δ h E Q hi I s hE J U
  have hn:ks[i]?=some (ks[i]'(by omega)):=List.getElem?_eq_getElem _
  generalize (ks[i]'(by omega))=k at hn
  have Rb:=List.mem_of_getElem? hn
  have Ml:=Iw k Rb
  have ji:ks.drop i=k::ks.drop (i+1):=by
   obtain ⟨J,rfl⟩:=List.getElem?_eq_some_iff.1 hn
   exact List.drop_eq_getElem_cons J
  obtain ⟨b,hb⟩:=Option.isSome_iff_exists.1 (GK k Rb)
  have qZ:b.length=512:=hlen _ (fc hb)
  rw [ji,againW,hb] at J U
  simp only at J U
  have hc:(dO ks)[i]?=some (.int .i64 k):=by simp [dO,hn]
  obtain ⟨id,off,e1,e2⟩:=lW s (k:=3) rfl hc Tryz.underlying98 jh
  refine WP.loop (WP.has hE (zg rfl (ae.aR rfl rfl rfl (af rfl rfl aX) (by simp; omega) ?_)))
  refine zv (zw (zi rfl (WP.skip (zw (WP.block (zg rfl (zo rfl (cH (r:=.ptr id off) rfl rfl e1) (zl rfl (e2 _ cq) (za rfl (zv (zw ?_)))))))))))
  rcases iL (n:=k) (fun _ _=>aq.bp _ _) (s.aa [1]) Tryz.underlying86 Tryz.underlying3 rI with ⟨hl,_⟩ | ⟨u,b',hl,_,f2,s⟩
  ·rw [hb] at hl; cases hl
  rw [hb] at hl
  injection hl with hl
  subst hl
  dsimp only [j6,ai,bringA] at s
  obtain ⟨f4,s⟩:cV Tryz.prog h 179 (.map j0) (.int .i64 k) false=some (.int .u64 (lF ρ k:Int))∧Sat h (fE uG (.map j0) ρ.jS::.bp u b::fE (fun v b=>.bp v b) (.map i0) ρ.aj::pt x (.cells 2 [.map i0,.map j0] false)::.arr 1 kv (dO ks)::pt a (.cells 6 (j6 a p q r op dv wv) false)::az p δ::S):=by
   have s:=s.aa [3,0,0,0]
   rcases iL (n:=k) (fun _ _=>aq.pu _) s Tryz.underlying179 Tryz.underlying3 DO with ⟨hl,_,f⟩ | ⟨w,y,hl,_,f,s⟩
   ·exact ⟨by rw [f,lF,hl]; rfl,s⟩
   ·obtain ⟨rfl,s2⟩:=cL.1 s
    exact ⟨by rw [f,lF,hl]; rfl,s2⟩
  have s:=s.aa [3,4,1]
  dsimp only [j6,bringA,getA,ai] at s
  have xN:=cg (s.ax (k:=2) rfl (bN _ _))
  refine WP.drawn [none,none,none,none,none,none,none,none,none,none,none,none,none,none,none,none,none,none] rfl (by kernel_rfl) (by kernel_rfl) ?_
  refine zM rfl (zN rfl (zF rfl (kE _ _) (zL rfl (by exact s.ld (k:=0) rfl iD rfl) ?_)))
  refine zM rfl (zO rfl (fo rfl rfl f2) (zM rfl (zN rfl (zF rfl (CK _ _) (zL rfl (by exact s.ld (k:=0) rfl J5 rfl) ?_)))))
  refine zM rfl (zO rfl (fo rfl rfl f4) (au.any rfl rfl rfl rfl (OpR.call rfl rfl rfl rfl (CR (n:=lF ρ k) hT (s.aa [2]) (bN _ _) (by omega))) ?_))
  rintro v h (⟨hg,u2,rfl,s⟩ | ⟨hg,rfl,s⟩)
  ·skip
   dsimp only [ai,bringA] at s
   refine zM rfl (zO rfl (bL rfl rfl) (zO rfl (bL rfl rfl) (zA rfl (zA rfl ?_))))
   refine au.nil ⟨⟨trivial,trivial,trivial,trivial,trivial,trivial,trivial,trivial,trivial,trivial,trivial,trivial,trivial,trivial,trivial,trivial,trivial,trivial,trivial⟩,?_⟩
   refine zw (zg rfl (zm rfl (ae.aE rfl rfl rfl (af rfl rfl aN) (rfl) (zm rfl (zm rfl (zm rfl (zn rfl (zf rfl (o6 _ _) (zl rfl (by exact s.ld (k:=3) rfl mF rfl) ?_)))))))))
   refine ae.call rfl rfl rfl rfl rfl rfl rfl (uv hT (s.aa [7])) ?_
   rintro v h' ⟨rfl,rfl⟩
   by_cases hp:k<δ.aj.length
   ·skip
    rw [if_pos ⟨hg,hp⟩] at J U
    have iU:=(r_ (n:=lF ρ k) qZ).2.1
    have Q1:=I.wait
    have hw:=I.write (k:=k) (b:=cj b (lF ρ k)) Ml hp
    refine ae.aE rfl rfl rfl (af rfl rfl kZ) (by simp; omega) ?_
    refine zp rfl (zv (zj rfl (WP.skip (zg rfl (zm rfl (zn rfl (zf rfl (o6 _ _) (zl rfl (by exact s.ld (k:=3) rfl mF rfl) ?_))))))))
    refine zm rfl (zm rfl (ae.call rfl rfl rfl rfl rfl rfl rfl (CU hT (s.aa [7,0]) (bk _ _) (by omega) I.ok.aJ (by omega)) ?_))
    rintro v h ⟨rfl,s⟩
    dsimp only [ai,bringA] at s
    by_cases h0:(δ.bF k (cj b (lF ρ k))).1=0
    ·rw [if_neg (not_not_intro h0)] at J U
     rw [h0]
     refine za rfl (zv (zg rfl (zm rfl (ae.aE rfl rfl rfl (af rfl rfl aN) (rfl) (zv (zj rfl (WP.skip (zr rfl (zb rfl (by exact bl (aF (by omega) (by omega))) ?_)))))))))
     refine zm rfl (zv ?_)
     have s:=(s.aa [3,5,4,4,3,0]).del 6
     have s:=s.del 6
     dsimp only [bringA,getA,ai] at s
     exact ih (i+1) _ _ _ Q (by omega) hw.1 s ⟨rfl,rfl,rfl,rfl,rfl,trivial⟩ J U
    ·skip
     rw [if_pos h0] at J U
     refine za rfl (zv (zg rfl (zm rfl (ae.aR rfl rfl rfl (af rfl rfl aN) (by simpa using h0) ?_))))
     refine zv (zi rfl (zg rfl (zm rfl (za rfl (zv (WP.ret ?_))))))
     have s:=(s.aa [4,0]).del 2
     exact J _ _ h0 rfl ((((s.del 2).del 2).del 2).del 2 |>.del 2)
   ·skip
    rw [if_neg (fun q=>hp q.2)] at J U
    refine ae.aR rfl rfl rfl (af rfl rfl kZ) (by simp; omega) ?_
    refine zp rfl (zv (zi rfl (WP.exit (zr rfl (zb rfl (by exact bl (aF (by omega) (by omega))) ?_)))))
    refine zm rfl (zv ?_)
    have s:=(s.aa [2,4,3,3,2,2]).del 6
    have s:=s.del 6
    dsimp only [bringA,getA,ai] at s
    exact ih (i+1) _ _ _ Q (by omega) I.less s ⟨rfl,rfl,rfl,rfl,rfl,trivial⟩ J U
  ·skip
   rw [if_neg (fun q=>by rw [hg] at q; cases q.1)] at J U
   dsimp only [ai,bringA] at s
   refine zM rfl (zO rfl (bL rfl rfl) (zO rfl (bL rfl rfl) (zA rfl (zA rfl ?_))))
   refine au.nil ⟨⟨trivial,trivial,trivial,trivial,trivial,trivial,trivial,trivial,trivial,trivial,trivial,trivial,trivial,trivial,trivial,trivial,trivial,trivial,trivial⟩,?_⟩
   refine zw (zg rfl (zm rfl (ae.aR rfl rfl rfl (af rfl rfl aN) (rfl) (zm rfl (zx rfl (zx rfl (zx rfl (zx rfl (zx rfl (zx rfl (zx rfl (zq rfl (zv (zi rfl (WP.exit (zr rfl (zb rfl (by exact bl (aF (by omega) (by omega))) ?_)))))))))))))))))
   refine zm rfl (zv ?_)
   have s:=(s.aa [1,3,2,2,1,1]).del 6
   dsimp only [bringA,getA,ai] at s
   exact ih (i+1) _ _ _ Q (by omega) I.less s ⟨rfl,rfl,rfl,rfl,rfl,trivial⟩ J U
end
end Go.Proofs.YtconhghphklfjaaGreat.Am
namespace Go.Proofs.YtconhghphklfjaaGreat.Am
open Go
def fL.none : fL:=⟨[],[]⟩
theorem w9 : fL.none.Ok:=⟨fun e h=>(by cases h),fun k h=>(by cases h),List.nodup_nil⟩
theorem fL.Ok.UI {ρ:fL}(h:ρ.Ok): ρ.aj.length≤65536:=by
 have:=yb 65536 _ h.dup (fun n I=>by have:=h.low n I; omega)
 simpa using this
theorem Ba {α:Type}{m:List (Int×α)}: (ck m).length=m.length:=by rw [ck,(en _).length_eq,List.length_map]
theorem uI {α:Type}{m:List (Int×α)}{k:Int}: k∈ck m↔k∈m.map (·.1):=(en _).mem_iff
section
variable {told:Nat→Option (List V→H→Option (V×H))} {h:H} {S:List ah} {op:V} {data:List Nat} {a p q r base aK c0:Nat} {δ:Dk}
theorem Jm (hT:W4 told){rs bA cU:List b9}(he:rs=bA++cU)(om:∀r∈rs,r.Ok)(tq:(fy base aK rs).Ok)(J:kr δ 65536)(s:Sat h (cz a p q r op data c0::bj q p (fy base aK rs)::az p δ::S)):
  Call ⟨Tryz.prog,told⟩ 62 [.ptr a 0,.int .u64 ((base+szB bA:Nat):Int)] h fun v h' =>
   v=.int .i64 (jA (redoL (base+szB bA) cU fL.none) δ).1∧Sat h' (cz a p q r op data c0::bj q p (fy base aK rs)::az p (jA (redoL (base+szB bA) cU fL.none) δ).2::S):=by
 have hW:=hT.w.w.w
 have I:(redoL (base+szB bA) cU fL.none).Ok:=A_ w9 (fun r hr=>om r (by rw [he]; exact List.mem_append.2 (.inr hr)))
 obtain ⟨dv,s⟩:=bQ.1 s
 refine Call.of_wp (hW.free _ rfl) Tryz.func62 rfl rfl (zg rfl (za rfl (zv (zg rfl ?_))))
 refine ae.rH s rfl rfl rfl rfl (fun T4 h s => ?_)
 refine ae.rH s rfl rfl rfl rfl (fun QN h s => ?_)
 refine zo rfl (bW rfl (by rw [J6]; rfl)) ?_
 refine ae.bO s rfl rfl rfl (ff rfl rfl) (fun NF h s => ?_)
 dsimp only [V.cells,List.take,List.length_cons,List.length_nil,Nat.reduceAdd,List.drop,List.cons_append,List.nil_append,j6] at s
 refine za rfl (zv (zg rfl (zm rfl (zo rfl (yJ rfl rfl) (za rfl (zv (zw (zg rfl (zm rfl (za rfl (zv (WP.block ?_))))))))))))
 have s:=(s.eu (φ:=True) trivial).eu (φ:=True) trivial
 have s:=od (ρ:=fL.none).2 ⟨_,[],0,_,[],0,⟨trivial,List.nodup_nil,trivial,List.nodup_nil⟩,s.aa [2,3,0,1,0]⟩
 dsimp only [ai,bringA] at s
 refine EA hT.wr om tq cU bA fL.none h _ _ he w9 (s.aa [0,0,1]) ⟨rfl,rfl,rfl,rfl,trivial⟩ (fun E h hE s => ?_)
 generalize UD:redoL (base+szB bA) cU fL.none=ρ at I s
 refine WP.has hE ?_
 obtain ⟨i,l,k,j,m,g,⟨h1,h2,h3,h4⟩,s⟩:=od.1 s
 have s:=Cc (s.aa [2])
 have s:=c9.2 ⟨i,l,k,rfl,h1,h2,s.aa [2,0]⟩
 have s:=c9.2 ⟨j,m,g,rfl,h3,h4,s.aa [2,2]⟩
 have s:=s.aa [2,1,0]
 dsimp only [j6,ai,bringA,getA] at s
 have Sf:=I.UI
 refine zw (zg rfl (zm rfl (zn rfl (zf rfl (kE _ _) (zl rfl (by exact s.ld (k:=0) rfl iD rfl) ?_)))))
 refine ae.call rfl rfl rfl rfl rfl rfl rfl (qo hW s) ?_
 rintro v h ⟨kb,rfl,s⟩
 refine ae.call rfl rfl rfl rfl rfl rfl rfl (oA hW (s.aa [0,1]) (by decide) (by omega) (fun n hn=>wf_i64 (by have:=I.low n hn; omega) (by have:=I.low n hn; omega))) ?_
 intro kv h s
 dsimp only [ai,bringA] at s
 refine zo rfl (aL rfl rfl rfl (s.iH (n:=(ck ρ.aj).length) (j:=0) rfl (by simp [dO]) (by decide) Tryz.underlying98)) ?_
 refine zm rfl (zv (WP.block ?_))
 have s:=(s.aa [3,2,2,0,1,3]).del 6
 dsimp only [bringA,getA,ai] at s
 refine Cd hW (ks:=ck ρ.aj) (by rw [Ba]; exact Sf) (fun k hk=>(I.low k (uI.1 hk)).1) (fun k hk=>by
  cases hl:lookL k ρ.aj with
  | none=>exact absurd (uI.1 hk) (jI.1 hl)
  | some b=>rfl) I.len (ck ρ.aj).length 0 δ h _ _ (by omega) (by rw [Ba]; exact ⟨J.ok,by have:=J.wait; omega,J.now⟩) s ⟨rfl,rfl,rfl,rfl,rfl,trivial⟩ (fun E' h' U e2 s' => ?_) (fun E h U e2 hE s => ?_)
 ·rw [List.drop_zero] at U e2 s'
  have e:jA ρ δ=againW ρ (ck ρ.aj) δ:=by rw [jA,if_pos U]
  rw [e]
  exact ⟨trivial,_,oO e2,rfl,(bQ.2 ⟨dv,s'.aa [0,2]⟩).aa [0,1,0]⟩
 ·rw [List.drop_zero] at U e2 s
  refine WP.has hE (zw (zg rfl (zm rfl (zn rfl (zf rfl (kE _ _) (zl rfl (by exact s.ld (k:=0) rfl iD rfl) ?_))))))
  refine zo rfl (aL rfl rfl rfl (Ae (s.aa [1]) Tryz.underlying86)) ?_
  by_cases hz:ρ.aj=[]
  ·skip
   have e:jA ρ δ=(0,(againW ρ (ck ρ.aj) δ).2):=by rw [jA,if_neg (not_not_intro U),if_pos hz]
   rw [e]
   refine ae.aR rfl rfl rfl (af rfl rfl cS) (by rw [hz]; rfl) ?_
   refine zv (zi rfl (zg rfl (za rfl (zv ?_))))
   refine WP.ret ⟨trivial,_,rfl,?_⟩
   exact ⟨rfl,(bQ.2 ⟨dv,((s.drop.drop).aa [0,2])⟩).aa [0,1,0]⟩
  ·skip
   have e:jA ρ δ=(againW ρ (ck ρ.aj) δ).2.lD:=by rw [jA,if_neg (not_not_intro U),if_neg hz]
   rw [e]
   refine ae.aE rfl rfl rfl (af rfl rfl cS) (by have:ρ.aj.length≠0:=fun h=>hz (List.eq_nil_of_length_eq_zero h); simp; omega) ?_
   refine zv (zj rfl (WP.skip (zg rfl (zm rfl (zn rfl (zf rfl (o6 _ _) (zl rfl (by exact s.ld (k:=2) rfl mF rfl) ?_)))))))
   refine ae.call rfl rfl rfl rfl rfl rfl rfl (LC hT.w.w (s.aa [3]) e2.ok e2.now) ?_
   rintro v h ⟨rfl,s⟩
   dsimp only [j6,ai,bringA] at s
   refine za rfl (zv ?_)
   refine WP.ret ⟨trivial,_,rfl,?_⟩
   exact ⟨rfl,(bQ.2 ⟨dv,(((s.aa [3,4,3,0]).del 4).del 4)⟩).aa [0,0,0]⟩
end
end Go.Proofs.YtconhghphklfjaaGreat.Am
