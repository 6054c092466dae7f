/- SpaceRoots: a part of its proof; conditions: its statement's. -/
import Derived.Test.YtefepnnfphdkpaaGreatF39
namespace Go.Proofs.YtefepnnfphdkpaaGreat.Am
open Go
structure gu where
 ax:I2
 ou:List (Int×Nat)
def chgF (n:Nat)(c:cq)(ρ:gu): gu :=
 if c.whole=true then { ax:=cB c.aL c.b ρ.ax,ou:=cB c.aL n ρ.ou } else
 match lookL c.aL ρ.ax with
 | none=>ρ
 | some b=>{ ax:=cB c.aL (aV b c.pos.toNat c.b) ρ.ax,ou:=cB c.aL n ρ.ou }
abbrev Ci (v:V)(n:Nat): au:=.pu (v=.int .u64 (n:Int))
def x_ (x:Nat)(ρ:gu): au:=xs fun i:Nat=>xs fun l:cR=>xs fun k:Nat=>xs fun j:Nat=>xs fun m:cR=>xs fun g:Nat =>
 star [.pu (gB k 0 l∧(ρ.ax.map (·.1)).Nodup∧gB g 0 m∧(ρ.ou.map (·.1)).Nodup),pt x (.cells 2 [.map i,.map j] false),gE i l k,bufsA l ρ.ax,gE j m g,eW Ci m ρ.ou]
theorem BR (l:List Nat): aV l 0 l=l:=by simp [aV]
section
variable {told:cQ} {h:H} {S:List au} {X:au} {u v:V} {b:List Nat} {x n:Nat} {c:cq} {ρ:gu}
theorem uQ : Sat h (x_ x ρ::S)↔∃i l k j m g,(gB k 0 l∧(ρ.ax.map (·.1)).Nodup∧gB g 0 m∧(ρ.ou.map (·.1)).Nodup) ∧
  Sat h (pt x (.cells 2 [.map i,.map j] false)::gE i l k::bufsA l ρ.ax::gE j m g::eW Ci m ρ.ou::S):=by
 simp only [x_,gN,bQ,fg,cZ,eo]
noncomputable def chR : Code:=dB [1,1,1] ((Tryz.f137.body).getD .skip)
theorem ya (hT:W told){i k j g p5:Nat}{l m:cR}(hb:b.length=512)(hc:c.Ok)(J:gB k 0 l)(h2:(ρ.ax.map (·.1)).Nodup)(h3:gB g 0 m)(h4:(ρ.ou.map (·.1)).Nodup)
 (s:Sat h (aZ v b::.cx u c.b::pt x (.cells 2 [.map i,.map j] false)::gE i l k::qt c.aL l ρ.ax::gE j m g::eW Ci m ρ.ou::pt p5 (.cells 4 [.int .i64 c.aL,.int .i64 c.pos,.bool c.whole,u] false)::S))
 {E:List (Nat×V)}{Q:Ex→List (Nat×V)→H→Prop}(hE:Has E [(0,.ptr x 0),(1,.int .u64 (n:Int)),(5,.ptr p5 0),(6,v)])
 (hq:∀E' h',Sat h' (x_ x { ax:=cB c.aL (aV b c.pos.toNat c.b) ρ.ax,ou:=cB c.aL n ρ.ou }::.cx u c.b::S)→Q .normal E' h'): WP ⟨Tryz.prog,told⟩ 52 chR E h Q:=by
 obtain ⟨c1,c2,c3,c4,c5,c6⟩:=hc
 obtain ⟨a,ha⟩:∃a:Nat,c.pos=a:=⟨c.pos.toNat,by omega⟩
 refine WP.has hE (zw ?_)
 have s0:=s
 have I:=dz (s.buf (k:=0) rfl).view
 have uw:=dz (s.aE (k:=1) rfl (dy _ _))
 rw [ha] at s
 have sl:=(eO (s.buf (k:=0) rfl).view (a:=a) (by omega)).1
 refine WP.drawn [ai,ai,ai,ai,ai,ai,ai] rfl (by kernel_rfl) (by kernel_rfl) ?_
 refine zM rfl (zF rfl (pz _ _) (zL rfl (s.ld (k:=7) rfl dL rfl) (zO rfl (cf (p:=some (.int .i64 (a:Int))) (q:=none) (m:=none) (p':=some a) (q':=none) (m':=none) rfl rfl rfl rfl (by simp [gI,bndV]) rfl rfl sl) ?_)))
 refine zF rfl (m6 _ _) (zL rfl (s.ld (k:=7) rfl bJ rfl) (aB.any rfl rfl rfl rfl (OpR.PY rfl s (dy _ _) (by omega) (by omega) rfl rfl rfl rfl rfl) ?_))
 intro r h s
 refine aB.nil ⟨⟨aa,aa,aa,aa,aa,aa,aa,aa⟩,?_⟩
 have s0:=s
 refine WP.drawn [ai,ai,ai,ai,ai,ai,ai,ai,ai,ai,some (0,3),some (0,3),some (0,2),some (0,4),ai,ai,ai,ai,ai,ai] rfl (by kernel_rfl) (by kernel_rfl) ?_
 refine zM rfl (zN rfl (zF rfl (pF _ _) (zL rfl (s.ld (k:=2) rfl jS rfl) (zF rfl (nZ _ _) (zL rfl (s.ld (k:=7) rfl dL rfl) (zM rfl (zN rfl (zF rfl (KK _ _) (zL rfl (s.ld (k:=2) rfl Tk rfl) (zF rfl (nZ _ _) (zL rfl (s.ld (k:=7) rfl dL rfl) (zM rfl (zM rfl ?_)))))))))))))
 obtain ⟨w1,hh1,e1,s1⟩:=s.entry (j:=3) (n:=c.aL) rfl lp bD oP
 refine aB.any rfl rfl rfl rfl (OpR.mapEntry rfl rfl rfl e1) ?_
 rintro r1 lW ⟨rfl,rfl⟩
 refine zO rfl (cO rfl rfl) (aB.i_ rfl rfl rfl (OpR.entryStore rfl rfl rfl rfl (s1.entryStore (j:=3) (v:=v) rfl J)) ?_)
 intro r2 TC s2
 obtain ⟨w3,hh3,e3,s3⟩:=s2.entry (j:=5) (n:=c.aL) rfl Tryz.underlying208 bD WK
 refine aB.any rfl rfl rfl rfl (OpR.mapEntry rfl rfl rfl e3) ?_
 rintro r3 hr3 ⟨rfl,rfl⟩
 refine zO rfl (cO rfl rfl) (aB.i_ rfl rfl rfl (OpR.entryStore rfl rfl rfl rfl (s3.entryStore (j:=5) (v:=.int .u64 (n:Int)) rfl h3)) ?_)
 intro r4 hh4 s
 refine aB.nil ⟨⟨aa,aa,aa,aa,aa,aa,aa,aa,aa,aa,fun _ _=>.inr ⟨rfl,⟨_,lY rfl (nZ _ _)⟩,bq _ rfl⟩,yW (.inr ⟨rfl,⟨_,bh rfl (s0.ld (k:=7) rfl dL rfl)⟩,bq _ rfl⟩) (.inr ⟨rfl,⟨_,bh rfl (s1.ld (k:=7) rfl dL rfl)⟩,bq _ rfl⟩) (.inr ⟨rfl,⟨_,bh rfl (s2.ld (k:=7) rfl dL rfl)⟩,bq _ rfl⟩),fun _ _=>.inr ⟨rfl,⟨_,bz rfl⟩,I⟩,fun _ _=>.inr ⟨rfl,⟨_,bz rfl⟩,bq _ rfl⟩,aa,aa,aa,aa,aa,aa,aa⟩,?_⟩
 have s:=Sv (c:=k) (s.ae [0,3])
 have s:=(s.ae [5]).hO (B:=eW Ci (jG c.aL (.int .u64 (n:Int)) g m) (cB c.aL n ρ.ou)) fun a b h=>Fz (f:=Ci) (x:=n) (show V.int .u64 (n:Int)=_ from rfl) h
 refine hq _ _ ?_
 have e:c.pos.toNat=a:=by omega
 rw [e]
 have s:=s.del 6
 exact (uQ.2 ⟨i,_,_,j,_,_,⟨zC rfl (ew _) J,iL h2,zC rfl (ew _) h3,iL h4⟩,s.ae [3,3,1,2,0]⟩)
theorem P7 (J:W told)(hρ:∀e∈ρ.ax,e.2.length=512)(hc:c.Ok)(s:Sat h (x_ x ρ::.cx u c.b::S)):
  Call ⟨Tryz.prog,told⟩ 137 [.ptr x 0,.int .u64 (n:Int),.agg [.int .i64 c.aL,.int .i64 c.pos,.bool c.whole,u]] h fun v h'=>v=.bj []∧Sat h' (x_ x (chgF n c ρ)::.cx u c.b::S):=by
 obtain ⟨i,l,k,j,m,g,⟨h1,h2,h3,h4⟩,s⟩:=uQ.1 s
 have hu:=(s.aE (k:=5) rfl (dy _ _)).cells
 have uw:=dz (s.aE (k:=5) rfl (dy _ _))
 refine Call.of_wp (J.free _ rfl) Tryz.func137 rfl rfl (zg rfl (aA.b5 s rfl rfl rfl (fe rfl (by simp only [V.cells,fH,jh,hu.2]; rfl)) ?_))
 intro p5 h s
 dsimp only [V.cells] at s
 dsimp only [List.length_cons,List.length_nil,Nat.reduceAdd] at s
 refine zk 2 rfl ?_
 have e2:=s.Tp (n:=c.aL) (j:=2) rfl lp bD oP
 have I:c.whole=true→c.pos=0∧c.b.length=512:=hc.2.2.2.2.2
 have iG:c.b.length≤512:=by have:=hc.2.2.1; have:=hc.2.2.2.2.1; omega
 have s0:=s
 rcases hle:lookE c.aL l with _ | u0
 ·skip
  rw [hle] at e2
  obtain ⟨PL,s⟩:=P5 hle (s.ae [3])
  have hX:=s
  have s:=s0
  refine WP.drawn [ai,ai,ai,ai,ai,ai,ai,ai,ai,ai,ai,ai] rfl (by kernel_rfl) (by kernel_rfl) ?_
  refine zM rfl (zN rfl (zF rfl (pF _ _) (zL rfl (s.ld (k:=1) rfl jS rfl) (zF rfl (nZ _ _) (zL rfl (s.ld (k:=0) rfl dL rfl) (zO rfl (iJ rfl rfl e2) (zM rfl (zO rfl (cO rfl rfl) (zO rfl (cO rfl rfl) (zA rfl (zA rfl ?_)))))))))))
  refine aB.nil ⟨⟨aa,aa,aa,aa,aa,aa,aa,aa,aa,aa,aa,aa,aa⟩,?_⟩
  refine zw (WP.block (zg rfl (zf rfl (wF _ _) ?_)))
  by_cases hw:c.whole=true
  ·skip
   refine zt rfl (bh rfl (s.ld (k:=0) rfl kX rfl)) (hw) (zk 4 rfl (zf rfl (m6 _ _) (zl rfl (s.ld (k:=0) rfl bJ rfl) (zc rfl (mH J (hX.ae [6]) (dy _ _) (by omega)) ?_))))
   intro v h s
   dsimp only [aQ,bringA] at s
   refine za rfl (zv ?_)
   refine ya (n:=n) J (I hw).2 hc h1 h2 h3 h4 (s.ae [0,0,2,2,0,1,1,0]) ⟨rfl,rfl,rfl,rfl,aa⟩ (fun E' h' s' => ?_)
   have e:aV c.b c.pos.toNat c.b=c.b:=by rw [(I hw).1]; exact BR _
   rw [e] at s'
   refine ⟨aa,_,rfl,rfl,?_⟩
   rw [chgF,aj hw]
   exact s'
  ·skip
   refine zh rfl (bh rfl (s.ld (k:=0) rfl kX rfl)) (by simpa using hw) ?_
   refine zk 6 rfl (zo rfl (eD rfl rfl) (zk 3 rfl (WP.ret ⟨aa,_,rfl,?_⟩)))
   have e:chgF n c ρ=ρ:=by rw [chgF,ah hw,PL]
   rw [e]
   exact ⟨rfl,(uQ.2 ⟨i,l,k,j,m,g,⟨h1,h2,h3,h4⟩,s.drop⟩)⟩
 ·skip
  rw [hle] at e2
  obtain ⟨y,PL,s⟩:=P6 hle (s.ae [3])
  have hX:=s
  have s:=s0
  have acp:=dz (hX.buf (k:=0) rfl).view
  have hy:y.length=512:=hρ _ (gU PL)
  refine WP.drawn [ai,ai,ai,ai,ai,ai,ai,ai,ai,ai,ai,ai] rfl (by kernel_rfl) (by kernel_rfl) ?_
  refine zM rfl (zN rfl (zF rfl (pF _ _) (zL rfl (s.ld (k:=1) rfl jS rfl) (zF rfl (nZ _ _) (zL rfl (s.ld (k:=0) rfl dL rfl) (zO rfl (iJ rfl rfl e2) (zM rfl (zO rfl (cO rfl rfl) (zO rfl (cO rfl rfl) (zA rfl (zA rfl ?_)))))))))))
  refine aB.nil ⟨⟨aa,aa,aa,aa,aa,aa,aa,aa,aa,aa,aa,aa,aa⟩,?_⟩
  refine zw (WP.block (zg rfl (zf rfl (wF _ _) ?_)))
  by_cases hw:c.whole=true
  ·skip
   refine zt rfl (bh rfl (s.ld (k:=0) rfl kX rfl)) (hw) (zk 4 rfl (zf rfl (m6 _ _) (zl rfl (s.ld (k:=0) rfl bJ rfl) (zc rfl (mH J ((hX.drop).ae [6]) (dy _ _) (by omega)) ?_))))
   intro v h s
   dsimp only [aQ,bringA] at s
   refine za rfl (zv ?_)
   refine ya (n:=n) J (I hw).2 hc h1 h2 h3 h4 (s.ae [0,0,2,2,0,1,1,0]) ⟨rfl,rfl,rfl,rfl,aa⟩ (fun E' h' s' => ?_)
   have e:aV c.b c.pos.toNat c.b=c.b:=by rw [(I hw).1]; exact BR _
   rw [e] at s'
   refine ⟨aa,_,rfl,rfl,?_⟩
   rw [chgF,aj hw]
   exact s'
  ·skip
   refine zh rfl (bh rfl (s.ld (k:=0) rfl kX rfl)) (by simpa using hw) ?_
   refine za rfl (zv (zj rfl (zg rfl (zm rfl (zo rfl (eD rfl rfl) (za rfl (zv (zj rfl (WP.skip ?_)))))))))
   refine ya (n:=n) J hy hc h1 h2 h3 h4 (hX.ae [0,6,2,2,0,1,1,0]) ⟨rfl,rfl,rfl,rfl,aa⟩ (fun E' h' s' => ?_)
   refine ⟨aa,_,rfl,rfl,?_⟩
   rw [chgF,ah hw,PL]
   exact s'
end
def szB : List bZ→Nat
 | []=>0
 | r::l=>r.len+szB l
theorem f_ : ∀ {rs:List bZ} {n:Nat},(logB n rs).length=szB rs:=by
 intro rs
 induction rs with
 | nil=>intro n; rfl
 | cons r rs I=>intro n; simp only [logB,szB,bx,sg,I]; rfl
theorem pP {x y:List bZ}: szB (x++y)=szB x+szB y:=by
 induction x with
 | nil=>simp [szB]
 | cons r x I=>simp only [fg,szB,I]; omega
theorem yb {y:List bZ}: ∀ {x:List bZ} {n:Nat},logB n (x++y)=logB n x++logB (n+szB x) y:=by
 intro x
 induction x with
 | nil=>intro n; simp [logB,szB]
 | cons r x I=>intro n; simp only [fg,logB,szB,I,bS,gx]
theorem I3 {y:List bZ}: ∀ {x:List bZ} {a:Nat},lE a (x++y)=lE a x++lE (a+szB x) y:=by
 intro x
 induction x with
 | nil=>intro a; simp [lE,szB]
 | cons r x I=>intro a; simp only [fg,lE,szB,I,gx]
theorem Gb : ∀ {rs:List bZ} {a:Nat},(lE a rs).Pairwise (· < ·)∧∀s∈lE a rs,a≤s∧s<a+szB rs:=by
 intro rs
 induction rs with
 | nil=>intro a; exact ⟨List.Pairwise.nil,by simp [lE]⟩
 | cons r rs J =>
  intro a
  obtain ⟨h1,I⟩:=J (a:=a+r.len)
  have h8:8≤r.len:=by rw [bZ.len]; omega
  simp only [lE,szB,oY,fq]
  refine ⟨⟨fun s hs=>by have:=I s hs; omega,h1⟩,?_⟩
  rintro s (rfl | hs)
  ·omega
  ·have:=I s hs; omega
theorem Sw : ∀ {rs:List bZ} {a:Nat},(lE a rs).length=rs.length:=by
 intro rs
 induction rs with
 | nil=>intro a; rfl
 | cons r rs I=>intro a; simp only [lE,aS,I]
theorem Zh : ∀ {rs:List bZ},rs.length*8≤szB rs:=by
 intro rs
 induction rs with
 | nil=>simp
 | cons r rs I=>have:8≤r.len:=(by rw [bZ.len]; omega); simp only [szB,aS]; omega
theorem Ln {base aH:Nat}{rs:List bZ}(I:base+szB rs≤1099511627776)(J:szB rs≤16777216)(h3:aH≤1099511627776): (iE base aH rs).Ok:=by
 have h4:=Zh (rs:=rs)
 refine ⟨?_,?_,?_,(Gb (a:=0)).1,?_,?_,h3⟩
 ·show base+(logB base rs).length≤_; rw [f_]; exact I
 ·show (lE 0 rs).length≤_; rw [Sw]; omega
 ·intro s hs
  have:=(Gb (a:=0) (rs:=rs)).2 s hs
  show s<(logB base rs).length
  rw [f_]; omega
 ·exact aD _
 ·show (logB base rs).length≤_; rw [f_]; exact J
theorem Sx {base aH:Nat}{dw fP:List bZ}{r:bZ}: (iE base aH (dw++r::fP)).hasB (base+szB dw)=true:=by
 rw [Lg.hasB,List.any_eq_true]
 refine ⟨szB dw,?_,by simp [iE]⟩
 show szB dw∈lE 0 (dw++r::fP)
 rw [I3,dH]
 exact List.mem_append.2 (.inr bu)
def DM (n:Nat)(aM:List cq)(ρ:gu): gu:=aM.foldl (fun ρ c=>chgF n c ρ) ρ
def redoL : Nat→List bZ→gu→gu
 | _,[],ρ=>ρ
 | n,r::l,ρ=>redoL (n+r.len) l (DM n r.aM ρ)
theorem Gc {α:Type}{n:Int}{a:α}: ∀ {l:List (Int×α)} {e:Int×α},e∈cB n a l→e=(n,a)∨e∈l:=Dx
structure gu.Ok (ρ:gu): Prop where
 len:∀e∈ρ.ax,e.2.length=512
 low:∀k∈ρ.ax.map (·.1),(0:Int)≤k∧k<65536
 dup:(ρ.ax.map (·.1)).Nodup
theorem Lo {n:Nat}{c:cq}{ρ:gu}(h:ρ.Ok)(I:c.Ok): (chgF n c ρ).Ok:=by
 have hcw:c.whole=true→c.pos=0∧c.b.length=512:=I.2.2.2.2.2
 have key:∀b:List Nat,b.length=512→∀L,(gu.mk (cB c.aL b ρ.ax) L).Ok:=fun b hb L=>by
  refine ⟨fun e he => ?_,fun k hk => ?_,iL h.dup⟩
  ·rcases Gc he with rfl | he
   ·exact hb
   ·exact h.len e he
  ·rcases oQ.1 hk with rfl | hk
   ·exact ⟨I.1,I.2.1⟩
   ·exact h.low k hk
 unfold chgF
 split
 ·rename_i hw
  exact key _ (hcw hw).2 _
 ·split
  ·exact h
  ·rename_i b hb
   have J:=h.len _ (gU hb)
   simp only at J
   have:=I.2.2.1
   have:=I.2.2.2.2.1
   refine key _ ?_ _
   rw [cz (by omega),J]
theorem I4 {n:Nat}: ∀ {aM:List cq} {ρ:gu},ρ.Ok→(∀c∈aM,c.Ok)→(DM n aM ρ).Ok:=by
 intro aM
 induction aM with
 | nil=>intro ρ h _; exact h
 | cons c aM J=>intro ρ h I; exact J (Lo h (I c bu)) (fun x hx=>I x (bn _ hx))
theorem bZ.Ok.aM {r:bZ}(h:r.Ok): ∀c∈r.aM,c.Ok:=by
 have:=h.good
 simp only [dD,aO,lQ,eL] at this
 exact this.2
theorem Cj : ∀ {rs:List bZ} {n:Nat} {ρ:gu},ρ.Ok→(∀r∈rs,r.Ok)→(redoL n rs ρ).Ok:=by
 intro rs
 induction rs with
 | nil=>intro n ρ h _; exact h
 | cons r rs J=>intro n ρ h I; exact J (I4 h (I r bu).aM) (fun x hx=>I x (bn _ hx))
def od (ρ:gu)(k:Int): Nat:=(lookL k ρ.ou).getD 0
def againW (ρ:gu): List Int→Dk→Int×Dk
 | [],δ=>(0,δ)
 | k::l,δ =>
  match lookL k ρ.ax with
  | some b=>if b7 b=true∧k<δ.ax.length then (if (δ.bK k (cM b (od ρ k))).1≠0 then δ.bK k (cM b (od ρ k)) else againW ρ l (δ.bK k (cM b (od ρ k))).2) else againW ρ l δ
  | none=>againW ρ l δ
def mu (ρ:gu)(δ:Dk): Int×Dk :=
 if (againW ρ (bU ρ.ax) δ).1≠0 then againW ρ (bU ρ.ax) δ else if ρ.ax=[] then (0,(againW ρ (bU ρ.ax) δ).2) else (againW ρ (bU ρ.ax) δ).2.iQ
section
variable {told:cQ} {h:H} {S:List au} {X:au} {ch fv v op dv:V} {cs:List V} {a p q r x n base aH c0:Nat} {ρ:gu} {δ:Dk}
noncomputable def agI : Code:=dB [1,1,1,0,1,0,0,0,1,1,0,1,0,0] ((Tryz.f87.body).getD .skip)
theorem P8 (hT:W told){aM:List cq}(lG:∀c∈aM,c.Ok){av nv:V}: ∀(j i:Nat) (ρ:gu) (h:H) (E:List (Nat×V)) (Q:Ex→List (Nat×V)→H→Prop),i+j=aM.length→aM.length<4294967296→ρ.Ok →
  Sat h (x_ x ρ::.arr 4 ch cs::dg cs aM::S) →
  Has E [(0,av),(5,.ptr x 0),(6,.fn (.func 137) [.ptr x 0] []),(7,.int .u64 (n:Int)),(9,nv),(38,ch),(39,.int .i64 aM.length),(40,.int .i64 i)] →
  (∀E' h',Has E' [(0,av),(5,.ptr x 0),(6,.fn (.func 137) [.ptr x 0] []),(9,nv)]→Sat h' (x_ x (DM n (aM.drop i) ρ)::.arr 4 ch cs::dg cs aM::S)→Q (.exit 2) E' h') →
  WP ⟨Tryz.prog,told⟩ 110 (.loop agI) E h Q:=by
 intro j
 induction j with
 | zero =>
  intro i ρ h E Q hi hl I s hE hq
  refine WP.loop (WP.has hE (zg rfl (zh rfl (af rfl rfl aT) (by simp; omega) ?_)))
  exact zk 3 rfl (WP.exit (hq _ _ ⟨rfl,rfl,rfl,rfl,aa⟩ (by rw [vJ (by omega)]; exact s)))
 | succ j ih =>
  intro i ρ h E Q hi hl I s hE hq
  have hc:aM[i]?=some (aM[i]'(by omega)):=bf _
  generalize (aM[i]'(by omega))=c at hc
  have FH:=lG c (bC hc)
  have J:aM.drop i=c::aM.drop (i+1):=by
   obtain ⟨h1,rfl⟩:=List.getElem?_eq_some_iff.1 hc
   exact oW h1
  obtain ⟨id,off,u,e1,e2,u1,u2,u3,s⟩:=HY (s.ae [1,1]) hc
  dsimp only [aQ,bringA] at s
  refine WP.loop (WP.has hE (zg rfl (zt rfl (af rfl rfl aT) (by simp; omega) ?_)))
  refine zk 5 rfl (WP.block (zg rfl (zo rfl (dr (r:=.ptr id off) rfl rfl e1) (zl rfl e2 ?_))))
  refine aA.b5 s rfl rfl rfl (bX nY) (fun W_ h s => ?_)
  dsimp only [V.cells,List.length_cons,List.length_nil,Nat.reduceAdd] at s
  refine zS rfl (s.eH (j:=0) rfl oL rfl (by simp only [fH,jh,u2]; rfl)) ?_
  rintro h s
  dsimp only [setA] at s
  refine zk 4 rfl (zl rfl (s.cA (k:=0) rfl GJ oL) (zc rfl (P7 (n:=n) hT I.len FH (s.ae [4,1])) ?_))
  rintro v h ⟨rfl,s⟩
  dsimp only [aQ,bringA] at s
  refine zv (zr rfl (zb rfl (by exact br (aC (by omega) (by omega))) ?_))
  refine zm rfl (zv ?_)
  have s:=(s.ae [0,2,2]).del 3
  have s:=s.del 3
  refine ih (i+1) (chgF n c ρ) _ _ Q (by omega) hl (Lo I FH) s ⟨rfl,rfl,rfl,rfl,rfl,rfl,rfl,rfl,aa⟩ (fun E' h' jd s'=>hq E' h' jd ?_)
  rw [J]
  exact s'
theorem I5 (hT:WR told){dw fP:List bZ}{r:bZ}(J:(iE base aH (dw++r::fP)).Ok)(I:r.Ok)(s:Sat h (b8 q p (iE base aH (dw++r::fP))::S)):
  Call ⟨Tryz.prog,told⟩ 84 [.ptr q 0,.int .u64 ((base+szB dw:Nat):Int)] h fun v h'=>∃dt ch cs,v=.bj [.agg (gT r.kd r.tx r.pv r.nx dt ch),.int .u64 ((base+szB dw+r.len:Nat):Int),.int .i64 0] ∧
   Sat h' (b8 q p (iE base aH (dw++r::fP))::aZ dt r.data::.arr 4 ch cs::dg cs r.aM::S):=by
 refine (PX (n:=base+szB dw) (a:=szB dw) (pre:=logB base dw) (rest:=logB (base+szB dw+r.len) fP) hT I.good I.kd I.rd rfl I.len f_ ?_ rfl Sx J s).mono fun v h' hx => ?_
 ·show logB base (dw++r::fP)=_
  rw [yb,logB]
  rfl
 ·have e:base+szB dw+r.len=base+szB dw+8+(dK r.kd r.tx r.pv r.nx r.data r.aM).length:=by rw [bZ.len,bZ.bd]; omega
  rw [e]
  exact hx
noncomputable def agO : Code:=dB [1,1,1,0,1,0,0] ((Tryz.f87.body).getD .skip)
theorem M9 (hT:WR told){rs:List bZ}{wv:Nat}(uW:∀r∈rs,r.Ok)(I:(iE base aH rs).Ok): ∀(fP dw:List bZ) (ρ:gu) (h:H) (E:List (Nat×V)) (Q:Ex→List (Nat×V)→H→Prop),rs=dw++fP→ρ.Ok →
  Sat h (x_ x ρ::pt a (.cells 6 (r6 a p q r op dv wv) false)::b8 q p (iE base aH rs)::S) →
  Has E [(0,.ptr a 0),(5,.ptr x 0),(6,.fn (.func 137) [.ptr x 0] []),(7,.int .u64 ((base+szB dw:Nat):Int))] →
  (∀E' h',Has E' [(0,.ptr a 0),(5,.ptr x 0)]→Sat h' (x_ x (redoL (base+szB dw) fP ρ)::pt a (.cells 6 (r6 a p q r op dv wv) false)::b8 q p (iE base aH rs)::S)→Q (.exit 0) E' h') →
  WP ⟨Tryz.prog,told⟩ 110 (.loop agO) E h Q:=by
 have hW:=hT.w
 intro fP
 induction fP with
 | nil =>
  intro dw ρ h E Q he J s hE hq
  refine WP.loop (WP.has hE ?_)
  have s:=s.ae [1,1,0]
  dsimp only [r6,bringA,getA,aQ] at s
  have eZ:=I.size
  have hn:base+szB dw=(iE base aH rs).base+(iE base aH rs).b.length:=by
   show _=base+(logB base rs).length
   rw [f_,he,bR]
  refine WP.block (zK 4 rfl (zf rfl (wD _ _) (zl rfl (s.ld (k:=0) rfl EB rfl) (zm rfl (zc rfl (Ds (n:=base+szB dw) hW (s.ae [1]) I (by omega) (.inl hn)) ?_)))))
  rintro v h ⟨e,Kr,rfl,s⟩
  refine zk 4 rfl ?_
  refine aA.b5 s rfl rfl rfl (bX qX) (fun p8 h s => ?_)
  dsimp only [V.cells,List.length_cons,List.length_nil,Nat.reduceAdd,aQ,bringA] at s
  refine zS rfl (s.eH (j:=0) rfl gL rfl rfl) (fun h s => ?_)
  dsimp only [setA] at s
  refine zk 7 rfl (zt rfl (af rfl rfl aN) (by simp; exact Kr) ?_)
  exact zk 2 rfl (WP.exit (hq _ _ ⟨rfl,rfl,aa⟩ ((s.drop).ae [2,1,0])))
 | cons y fP ih =>
  intro dw ρ h E Q he J s hE hq
  subst he
  have hy:=uW y (by simp)
  refine WP.loop (WP.has hE ?_)
  have s:=s.ae [1,1,0]
  dsimp only [r6,bringA,getA,aQ] at s
  refine WP.block (zK 4 rfl (zf rfl (wD _ _) (zl rfl (s.ld (k:=0) rfl EB rfl) (zm rfl (zc rfl (I5 (dw:=dw) (fP:=fP) (r:=y) hT I hy (s.ae [1])) ?_)))))
  rintro v h ⟨dt,ch,cs,rfl,s⟩
  dsimp only [aQ,bringA] at s
  have jr:=(s.buf (k:=1) rfl).view.cells
  have jT:=s.jb (j:=2) rfl
  have fN:[V.int .i64 (y.kd:Int),V.int .u64 (y.tx:Int),V.int .u64 (y.pv:Int),V.int .u64 (y.nx:Int),dt,ch].all storable=true:=mP jr.2 jT.2.1
  refine zk 4 rfl ?_
  refine aA.b5 s rfl rfl rfl (bX qX) (fun p8 h s => ?_)
  dsimp only [V.cells,List.length_cons,List.length_nil,Nat.reduceAdd] at s
  refine zS rfl (s.eH (j:=0) rfl gL rfl fN) ?_
  rintro h s
  dsimp only [setA] at s
  refine zk 7 rfl (zh rfl (af rfl rfl aN) (rfl) (zk 6 rfl (zf rfl (mO _ _) (zl rfl (s.ld (k:=0) rfl ug rfl) (zo rfl (aU rfl rfl rfl (s.wN (j1:=3) (j2:=4) rfl rfl iO)) (zk 2 rfl (WP.block ?_)))))))
  have s:=s.ae [6,3,3,3,1]
  dsimp only [bringA,getA,aQ] at s
  refine P8 (n:=base+szB dw) hW hy.aM y.aM.length 0 ρ h _ _ (by omega) (by have:=hy.rd.many; omega) J s ⟨rfl,rfl,rfl,rfl,rfl,rfl,rfl,rfl,aa⟩ (fun E h hE s => ?_)
  rw [eu] at s
  refine WP.has hE (zr rfl (zk 2 rfl (zv ?_)))
  have s:=(((s.del 6).del 5).ae [0,2,2]).del 3
  have s:=s.del 3
  refine ih (dw++[y]) (DM (base+szB dw) y.aM ρ) _ _ Q (by simp) (I4 J hy.aM) s ⟨rfl,rfl,rfl,?_,aa⟩ (fun E' h' jd s'=>hq E' h' jd ?_)
  ·rw [pP]
   show some (V.int .u64 ((base+szB dw+y.len:Nat):Int))=_
   rw [show base+(szB dw+szB [y])=base+szB dw+y.len by simp only [szB]; omega]
  ·rw [redoL,show base+szB dw+y.len=base+szB (dw++[y]) by rw [pP]; simp only [szB]; omega]
   exact s'
structure ow (δ:Dk)(m:Nat): Prop where
 ok:δ.Ok
 wait:δ.waiting.length+m≤268435456
 now:∀e∈δ.now,0≤e.1∧e.1<δ.ax.length
theorem ow.less {δ:Dk}{m:Nat}(h:ow δ (m+1)): ow δ m:=⟨h.ok,by have:=h.wait; omega,h.now⟩
theorem ow.write {δ:Dk}{m:Nat}{k:Int}{b:List Nat}(h:ow δ (m+1))(h0:0≤k)(h1:k<δ.ax.length): ow (δ.bK k b).2 m∧(δ.bK k b).2.ax=δ.ax:=by
 have hw:=h.wait
 have I:=h.ok.bK (n:=k) (b:=b)
 unfold Dk.bK at I ⊢
 split at I
 ·rename_i J
  rw [aj J]
  exact ⟨⟨I,by simp only; omega,h.now⟩,rfl⟩
 ·rename_i J
  rw [ah J]
  split at I
  ·rename_i h2
   rw [aj h2]
   exact ⟨⟨I,by simp only; omega,h.now⟩,rfl⟩
  ·rename_i h2
   rw [ah h2]
   split at I
   ·rename_i h3
    rw [aj h3]
    exact ⟨⟨I,by show δ.waiting.length+m≤_; omega,h.now⟩,rfl⟩
   ·rename_i h3
    rw [ah h3]
    refine ⟨⟨I,?_,fun e he => ?_⟩,rfl⟩
    ·show (δ.waiting++[(k.toNat,b)]).length+m≤_
     simp only [bx,aS,bT]; omega
    ·rcases Gc he with rfl | he
     ·exact ⟨h0,h1⟩
     ·exact h.now e he
noncomputable def agS : Code:=dB [1,1,1,1,0,1,0,0] ((Tryz.f87.body).getD .skip)
theorem J9 (hT:W told){ks:List Int}{kv:V}{i0 j0 wv:Nat}(Z5:ks.length≤65536)(uz:∀k∈ks,0≤k)(Dr:∀k∈ks,(lookL k ρ.ax).isSome=true)(hlen:∀e∈ρ.ax,e.2.length=512): ∀(j i:Nat) (δ:Dk) (h:H) (E:List (Nat×V)) (Q:Ex→List (Nat×V)→H→Prop),i+j=ks.length→ow δ j →
  Sat h (pt x (.cells 2 [.map i0,.map j0] false)::jc (fun v b=>.cx v b) (.map i0) ρ.ax::jc Ci (.map j0) ρ.ou::.arr 1 kv (gj ks)::pt a (.cells 6 (r6 a p q r op dv wv) false)::aR p δ::S) →
  Has E [(0,.ptr a 0),(5,.ptr x 0),(55,kv),(56,.int .i64 ks.length),(57,.int .i64 i)] →
  (∀E' h',(againW ρ (ks.drop i) δ).1≠0→look E' 4=some (.int .i64 (againW ρ (ks.drop i) δ).1)→Sat h' (pt a (.cells 6 (r6 a p q r op dv wv) false)::aR p (againW ρ (ks.drop i) δ).2::S)→Q .ret E' h') →
  (∀E' h',(againW ρ (ks.drop i) δ).1=0→ow (againW ρ (ks.drop i) δ).2 0→Has E' [(0,.ptr a 0),(5,.ptr x 0)]→Sat h' (pt x (.cells 2 [.map i0,.map j0] false)::jc (fun v b=>.cx v b) (.map i0) ρ.ax::pt a (.cells 6 (r6 a p q r op dv wv) false)::aR p (againW ρ (ks.drop i) δ).2::S)→Q (.exit 4) E' h') →
  WP ⟨Tryz.prog,told⟩ 110 (.loop agS) E h Q:=by
 intro j
 induction j with
 | zero =>
  intro i δ h E Q hi I s hE J h2
  rw [vJ (by omega)] at J h2
  refine WP.loop (WP.has hE (zg rfl (zh rfl (af rfl rfl aT) (by simp; omega) ?_)))
  exact zk 3 rfl (WP.exit (h2 _ _ rfl I ⟨rfl,rfl,aa⟩ ((s.ae [0,0,2,2]).del 5 |>.del 4)))
 | succ j ih =>
  intro i δ h E Q hi I s hE J h2
  have hn:ks[i]?=some (ks[i]'(by omega)):=bf _
  generalize (ks[i]'(by omega))=k at hn
  have hkm:=bC hn
  have SX:=uz k hkm
  have qh:ks.drop i=k::ks.drop (i+1):=by
   obtain ⟨J,rfl⟩:=List.getElem?_eq_some_iff.1 hn
   exact oW J
  obtain ⟨b,hb⟩:=Option.isSome_iff_exists.1 (Dr k hkm)
  have sx:b.length=512:=hlen _ (gU hb)
  rw [qh,againW,hb] at J h2
  simp only at J h2
  have hc:(gj ks)[i]?=some (.int .i64 k):=by simp [gj,hn]
  obtain ⟨id,off,e1,e2⟩:=mc s (k:=3) rfl hc eB kW
  refine WP.loop (WP.has hE (zg rfl (zt rfl (af rfl rfl aT) (by simp; omega) ?_)))
  refine zk 5 rfl (WP.block (zg rfl (zo rfl (dr (r:=.ptr id off) rfl rfl e1) (zl rfl (e2 _ dL) (zk 3 rfl ?_)))))
  rcases mz (n:=k) (fun _ _=>aW.cx _ _) (s.ae [1]) lp bD oP with ⟨hl,_⟩ | ⟨u,b',hl,_,f2,s⟩
  ·rw [hb] at hl; cases hl
  rw [hb] at hl
  injection hl with hl
  subst hl
  dsimp only [r6,aQ,bringA] at s
  obtain ⟨f4,s⟩:eV Tryz.prog h 208 (.map j0) (.int .i64 k) false=some (.int .u64 (od ρ k:Int))∧Sat h (jc Ci (.map j0) ρ.ou::.cx u b::jc (fun v b=>.cx v b) (.map i0) ρ.ax::pt x (.cells 2 [.map i0,.map j0] false)::.arr 1 kv (gj ks)::pt a (.cells 6 (r6 a p q r op dv wv) false)::aR p δ::S):=by
   have s:=s.ae [3,0,0,0]
   rcases mz (n:=k) (fun _ _=>aW.pu _) s Tryz.underlying208 bD WK with ⟨hl,_,f⟩ | ⟨w,y,hl,_,f,s⟩
   ·exact ⟨by rw [f,od,hl]; rfl,s⟩
   ·obtain ⟨rfl,s2⟩:=eo.1 s
    exact ⟨by rw [f,od,hl]; rfl,s2⟩
  have s:=s.ae [3,4,1]
  dsimp only [r6,bringA,getA,aQ] at s
  have uw:=dz (s.aE (k:=2) rfl (dy _ _))
  refine WP.drawn [ai,ai,ai,ai,ai,ai,ai,ai,ai,ai,ai,ai,ai,ai,ai,ai,ai,ai] rfl (by kernel_rfl) (by kernel_rfl) ?_
  refine zM rfl (zN rfl (zF rfl (pF _ _) (zL rfl (s.ld (k:=0) rfl jS rfl) (zM rfl (zO rfl (iJ rfl rfl f2) (zM rfl (zN rfl (zF rfl (KK _ _) (zL rfl (s.ld (k:=0) rfl Tk rfl) (zM rfl (zO rfl (iJ rfl rfl f4) (aB.any rfl rfl rfl rfl (OpR.call rfl rfl rfl rfl (KQ (n:=od ρ k) hT (s.ae [2]) (dy _ _) (by omega))) ?_))))))))))))
  rintro v h (⟨hg,u2,rfl,s⟩ | ⟨hg,rfl,s⟩)
  ·skip
   dsimp only [aQ,bringA] at s
   refine zM rfl (zO rfl (cO rfl rfl) (zO rfl (cO rfl rfl) (zA rfl (zA rfl ?_))))
   refine aB.nil ⟨⟨aa,aa,aa,aa,aa,aa,aa,aa,aa,aa,aa,aa,aa,aa,aa,aa,aa,aa,aa⟩,?_⟩
   refine zK 4 rfl (zh rfl (af rfl rfl aN) (rfl) (zk 4 rfl (zf rfl (rf _ _) (zl rfl (s.ld (k:=3) rfl qZ rfl) (zc rfl (xB hT (s.ae [7])) ?_)))))
   rintro v h' ⟨rfl,rfl⟩
   by_cases hp:k<δ.ax.length
   ·skip
    rw [aj ⟨hg,hp⟩] at J h2
    have ku:=(nJ (n:=od ρ k) sx).2.1
    have TH:=I.wait
    have hw:=I.write (k:=k) (b:=cM b (od ρ k)) SX hp
    refine zh rfl (af rfl rfl mG) (by simp; omega) ?_
    refine zk 8 rfl (zf rfl (rf _ _) (zl rfl (s.ld (k:=3) rfl qZ rfl) (zk 2 rfl (zc rfl (KV hT (s.ae [7,0]) (bg _ _) (by omega) I.ok.aP (by omega)) ?_))))
    rintro v h ⟨rfl,s⟩
    dsimp only [aQ,bringA] at s
    by_cases h0:(δ.bK k (cM b (od ρ k))).1=0
    ·rw [ah (not_not_intro h0)] at J h2
     rw [h0]
     refine za rfl (zv (zg rfl (zm rfl (zh rfl (af rfl rfl aN) (rfl) (zv (zj rfl (WP.skip (zr rfl (zb rfl (by exact br (aC (by omega) (by omega))) ?_)))))))))
     refine zm rfl (zv ?_)
     have s:=(s.ae [3,5,4,4,3,0]).del 6
     have s:=s.del 6
     dsimp only [bringA,getA,aQ] at s
     exact ih (i+1) _ _ _ Q (by omega) hw.1 s ⟨rfl,rfl,rfl,rfl,rfl,aa⟩ J h2
    ·skip
     rw [aj h0] at J h2
     refine zk 5 rfl (zt rfl (af rfl rfl aN) (by simpa using h0) ?_)
     refine zk 7 rfl (WP.ret ?_)
     have s:=(s.ae [4,0]).del 2
     exact J _ _ h0 rfl ((((s.del 2).del 2).del 2).del 2 |>.del 2)
   ·skip
    rw [ah (fun q=>hp q.2)] at J h2
    refine zt rfl (af rfl rfl mG) (by simp; omega) ?_
    refine zk 3 rfl (WP.exit (zr rfl (zb rfl (by exact br (aC (by omega) (by omega))) ?_)))
    refine zm rfl (zv ?_)
    have s:=(s.ae [2,4,3,3,2,2]).del 6
    have s:=s.del 6
    dsimp only [bringA,getA,aQ] at s
    exact ih (i+1) _ _ _ Q (by omega) I.less s ⟨rfl,rfl,rfl,rfl,rfl,aa⟩ J h2
  ·skip
   rw [ah (fun q=>by rw [hg] at q; cases q.1)] at J h2
   dsimp only [aQ,bringA] at s
   refine zM rfl (zO rfl (cO rfl rfl) (zO rfl (cO rfl rfl) (zA rfl (zA rfl ?_))))
   refine aB.nil ⟨⟨aa,aa,aa,aa,aa,aa,aa,aa,aa,aa,aa,aa,aa,aa,aa,aa,aa,aa,aa⟩,?_⟩
   refine zK 4 rfl (zt rfl (af rfl rfl aN) (rfl) (zk 11 rfl (WP.exit (zr rfl (zb rfl (by exact br (aC (by omega) (by omega))) ?_)))))
   refine zm rfl (zv ?_)
   have s:=(s.ae [1,3,2,2,1,1]).del 6
   exact ih (i+1) _ _ _ Q (by omega) I.less s ⟨rfl,rfl,rfl,rfl,rfl,aa⟩ J h2
end
def gu.none : gu:=⟨[],[]⟩
theorem Bj : gu.none.Ok:=⟨fun e h=>(by cases h),fun k h=>(by cases h),kL⟩
theorem gu.Ok.Xz {ρ:gu}(h:ρ.Ok): ρ.ax.length≤65536:=by
 have:=FW 65536 _ h.dup (fun n I=>by have:=h.low n I; omega)
 simpa using this
theorem Ck {α:Type}{m:List (Int×α)}: (bU m).length=m.length:=by rw [bU,(fc _).length_eq,fS]
theorem Cl {α:Type}{m:List (Int×α)}{k:Int}: k∈bU m↔k∈m.map (·.1):=(fc _).mem_iff
section
variable {told:cQ} {h:H} {S:List au} {op:V} {data:List Nat} {a p q r base aH c0:Nat} {δ:Dk}
theorem Sy (hT:W5 told){rs dw fP:List bZ}(he:rs=dw++fP)(uW:∀r∈rs,r.Ok)(B6:(iE base aH rs).Ok)(J:ow δ 65536)(s:Sat h (dV a p q r op data c0::b8 q p (iE base aH rs)::aR p δ::S)):
  Call ⟨Tryz.prog,told⟩ 87 [.ptr a 0,.int .u64 ((base+szB dw:Nat):Int)] h fun v h' =>
   v=.int .i64 (mu (redoL (base+szB dw) fP gu.none) δ).1∧Sat h' (dV a p q r op data c0::b8 q p (iE base aH rs)::aR p (mu (redoL (base+szB dw) fP gu.none) δ).2::S):=by
 have hW:=hT.w.w
 have I:(redoL (base+szB dw) fP gu.none).Ok:=Cj Bj (fun r hr=>uW r (by rw [he]; exact List.mem_append.2 (.inr hr)))
 obtain ⟨dv,s⟩:=cP.1 s
 refine Call.of_wp (hW.free _ rfl) Tryz.func87 rfl rfl (zK 6 rfl ?_)
 refine aA.y6 s rfl rfl rfl rfl (fun p18 h s => ?_)
 refine aA.y6 s rfl rfl rfl rfl (fun p19 h s => ?_)
 refine zo rfl (c_ rfl (by rw [Tl]; rfl)) ?_
 refine aA.b5 s rfl rfl rfl (fe rfl rfl) (fun Xb h s => ?_)
 refine zk 5 rfl (zo rfl (GD rfl rfl) (zk 8 rfl (WP.block ?_)))
 have s:=(s.gA (φ:=True) aa).gA (φ:=True) aa
 have s:=uQ (ρ:=gu.none).2 ⟨_,[],0,_,[],0,⟨aa,kL,aa,kL⟩,s.ae [2,3,0,1,0]⟩
 refine M9 hT.wr uW B6 fP dw gu.none h _ _ he Bj (s.ae [0,0,1]) ⟨rfl,rfl,rfl,rfl,aa⟩ (fun E h hE s => ?_)
 generalize hρ:redoL (base+szB dw) fP gu.none=ρ at I s
 refine WP.has hE ?_
 obtain ⟨i,l,k,j,m,g,⟨h1,h2,h3,h4⟩,s⟩:=uQ.1 s
 have s:=J8 (s.ae [2])
 have s:=fb.2 ⟨i,l,k,rfl,h1,h2,s.ae [2,0]⟩
 have s:=fb.2 ⟨j,m,g,rfl,h3,h4,s.ae [2,2]⟩
 have s:=s.ae [2,1,0]
 have abh:=I.Xz
 refine zK 5 rfl (zf rfl (pF _ _) (zl rfl (s.ld (k:=0) rfl jS rfl) (zc rfl (xK hW s) ?_)))
 rintro v h ⟨kb,rfl,s⟩
 refine zc rfl (vb hW (s.ae [0,1]) (by decide) (by omega) (fun n hn=>wf_i64 (by have:=I.low n hn; omega) (by have:=I.low n hn; omega))) ?_
 intro kv h s
 refine zo rfl (aU rfl rfl rfl (s.iB (n:=(bU ρ.ax).length) (j:=0) rfl (by simp [gj]) (by decide) eB)) ?_
 refine zk 2 rfl (WP.block ?_)
 have s:=(s.ae [3,2,2,0,1,3]).del 6
 refine J9 hW (ks:=bU ρ.ax) (by rw [Ck]; exact abh) (fun k hk=>(I.low k (Cl.1 hk)).1) (fun k hk=>by
  cases hl:lookL k ρ.ax with
  | none=>exact absurd (Cl.1 hk) (j8.1 hl)
  | some b=>rfl) I.len (bU ρ.ax).length 0 δ h _ _ (by omega) (by rw [Ck]; exact ⟨J.ok,by have:=J.wait; omega,J.now⟩) s ⟨rfl,rfl,rfl,rfl,rfl,aa⟩ (fun E' h' e1 e2 s' => ?_) (fun E h e1 e2 hE s => ?_)
 ·rw [eu] at e1 e2 s'
  have e:mu ρ δ=againW ρ (bU ρ.ax) δ:=by rw [mu,aj e1]
  rw [e]
  exact ⟨aa,_,ue e2,rfl,(cP.2 ⟨dv,s'.ae [0,2]⟩).ae [0,1,0]⟩
 ·rw [eu] at e1 e2 s
  refine WP.has hE (zK 5 rfl (zf rfl (pF _ _) (zl rfl (s.ld (k:=0) rfl jS rfl) (zo rfl (aU rfl rfl rfl (HH (s.ae [1]) lp)) ?_))))
  by_cases hz:ρ.ax=[]
  ·skip
   have e:mu ρ δ=(0,(againW ρ (bU ρ.ax) δ).2):=by rw [mu,ah (not_not_intro e1),aj hz]
   rw [e]
   refine zt rfl (af rfl rfl eA) (by rw [hz]; rfl) ?_
   exact zk 6 rfl (WP.ret ⟨aa,_,rfl,rfl,(cP.2 ⟨dv,((s.drop.drop).ae [0,2])⟩).ae [0,1,0]⟩)
  ·skip
   have e:mu ρ δ=(againW ρ (bU ρ.ax) δ).2.iQ:=by rw [mu,ah (not_not_intro e1),ah hz]
   rw [e]
   refine zh rfl (af rfl rfl eA) (by have:ρ.ax.length≠0:=fun h=>hz (lJ h); simp; omega) ?_
   refine zk 7 rfl (zf rfl (rf _ _) (zl rfl (s.ld (k:=2) rfl qZ rfl) (zc rfl (US hT.w (s.ae [3]) e2.ok e2.now) ?_)))
   rintro v h ⟨rfl,s⟩
   dsimp only [r6,V.cells,List.take,List.length_cons,List.length_nil,Nat.reduceAdd,List.drop,List.cons_append,List.nil_append,aQ,bringA,getA] at s
   exact zk 2 rfl (WP.ret ⟨aa,_,rfl,rfl,(cP.2 ⟨dv,(((s.ae [3,4,3,0]).del 4).del 4)⟩).ae [0,0,0]⟩)
end
def Sz (base aH:Nat)(rs:List bZ)(data:List Nat)(dw fP:List bZ): Prop :=
 rs=dw++fP∧((aH=0∧data=[]∧dw=[])∨∃A rc B,rs=A++rc::B∧aH=base+szB A∧aH≠0∧rc.kd=8∧8≤rc.data.length∧data=rc.data.drop 8∧max base (leN (rc.data.take 8))=base+szB dw)
def eC (δ:Dk)(base:Nat)(rs dw fP:List bZ): Int×Dk :=
 if (δ.cH (szB rs)).1≠0 then δ.cH (szB rs) else mu (redoL (base+szB dw) fP gu.none) (δ.cH (szB rs)).2
theorem J_ {δ:Dk}{n:Nat}: (δ.dG n).2.waiting=δ.waiting∧(δ.dG n).2.now=δ.now∧(δ.dG n).2.ax=δ.ax:=by
 unfold Dk.dG Dk.qq
 split
 ·split
  ·exact ⟨rfl,rfl,rfl⟩
  ·split
   ·exact ⟨rfl,rfl,rfl⟩
   ·split <;> exact ⟨rfl,rfl,rfl⟩
 ·exact ⟨rfl,rfl,rfl⟩
theorem Ka {δ:Dk}: δ.cK.2.waiting=δ.waiting∧δ.cK.2.now=δ.now∧δ.cK.2.ax=δ.ax:=by
 unfold Dk.cK
 split
 ·exact ⟨rfl,rfl,rfl⟩
 ·split <;> exact ⟨rfl,rfl,rfl⟩
theorem DN {δ:Dk}{n:Nat}: (δ.cH n).2.waiting=δ.waiting∧(δ.cH n).2.now=δ.now∧(δ.cH n).2.ax=δ.ax:=by
 unfold Dk.cH
 have h:=J_ (δ:=δ) (n:=n)
 split
 ·exact h
 ·split
  ·have I:=Ka (δ:=(δ.dG n).2)
   exact ⟨I.1.trans h.1,I.2.1.trans h.2.1,I.2.2.trans h.2.2⟩
  ·exact h
theorem ow.cH {δ:Dk}{m n:Nat}(h:ow δ m): ow (δ.cH n).2 m:=by
 obtain ⟨I,J,h3⟩:=DN (δ:=δ) (n:=n)
 exact ⟨h.ok.cH,by rw [I]; exact h.wait,by rw [J,h3]; exact h.now⟩
section
variable {told:cQ} {h:H} {S:List au} {data j:List Nat} {p base aH:Nat} {δ:Dk}
noncomputable def soE : Code:=dB [1,1,1,1,1,1,1,1,1] ((Tryz.f35.body).getD .skip)
theorem Gd (hT:W5 told){a q r n:Nat}{rs dw fP:List bZ}(he:rs=dw++fP)(J:∀r∈rs,r.Ok)(B6:(iE base aH rs).Ok)(mg:ow δ 65536){c0:Nat}
 (s:Sat h (dV a p q r .cu data c0::eF r p q (Pl.fresh n)::b8 q p (iE base aH rs)::aR p δ::S)){E:List (Nat×V)}{Q:Ex→List (Nat×V)→H→Prop}(hE:Has E [(9,.ptr a 0),(10,.int .u64 ((base+szB dw:Nat):Int))])
 {y:Int×Dk}(hy:mu (redoL (base+szB dw) fP gu.none) δ=y)
 (h1:∀E' h',y.1≠0→look E' 4=some .cu→look E' 5=some (.int .i64 y.1)→Sat h' (aR p y.2::S)→Q .ret E' h')
 (h2:∀E' h',y.1=0→look E' 4=some (.ptr a 0)→look E' 5=some (.int .i64 0)→Sat h' (dV a p q r .cu data c0::eF r p q (Pl.fresh n)::b8 q p (iE base aH rs)::aR p y.2::S)→Q .ret E' h'): WP ⟨Tryz.prog,told⟩ 95 soE E h Q:=by
 refine WP.has hE (zK 5 rfl (zc rfl (Sy hT he J B6 mg (s.ae [0,1,1])) ?_))
 rintro v h ⟨rfl,s⟩
 rw [hy] at s
 rw [hy]
 by_cases I:y.1=0
 ·skip
  rw [I]
  exact zk 5 rfl (zh rfl (af rfl rfl aN) (rfl) (zk 9 rfl (WP.ret (h2 _ _ I rfl rfl (s.ae [0,2,0,0])))))
 ·skip
  refine zk 5 rfl (zt rfl (af rfl rfl aN) (by simpa using I) ?_)
  exact zk 8 rfl (WP.ret (h1 _ _ I rfl rfl (((s.ae [2]).del 1 |>.del 1).del 1)))
theorem abi {P:Program}{h:H}{J:Array TypeId}{k:IntKind}{a b:Int}: builtinV P h .max J [.int k a,.int k b]=some (.int k (max a b),h):=by
 simp only [builtinV,foldV,maxV,dN,ag,jN]
 by_cases I:a<b
 ·simp only [I,AF,ag]
  rw [show max a b=b by omega]
 ·simp only [I,o6,az]
  rw [show max a b=a by omega]
theorem SB (hT:W5 told){n:Nat}{rs dw fP:List bZ}(BI:1≤n)(Ld:n≤1024)(s:Sat h (aR p δ::S))(mg:ow δ 65536)(hd:δ.dead=false)(hm:P0 δ.mark base aH)(xz:base+δ.log.length≤1099511627776)(M8:aH≤1099511627776)
 (EZ:δ.log=logB base rs++j)(J:∀r∈rs,r.Ok)(hj:rD j)(P9:Sz base aH rs data dw fP):
  Call ⟨Tryz.prog,told⟩ 35 [.ptr p 0,.int .i64 (n:Int)] h fun v h' =>
   ((eC δ base rs dw fP).1≠0∧v=.bj [.cu,.int .i64 (eC δ base rs dw fP).1]∧Sat h' (aR p (eC δ base rs dw fP).2::S)) ∨
   ((eC δ base rs dw fP).1=0∧∃a q r,v=.bj [.ptr a 0,.int .i64 0]∧Sat h' (dV a p q r .cu data aH::eF r p q (Pl.fresh n)::b8 q p (iE base aH rs)::aR p (eC δ base rs dw fP).2::S)):=by
 have hW:=hT.w.w
 have hlen:=mg.ok.len
 have jo:δ.log.length=szB rs+j.length:=by rw [EZ,bx,f_]
 have B6:(iE base aH rs).Ok:=Ln (by omega) (by omega) M8
 obtain ⟨XY,P9⟩:=P9
 generalize hy:eC δ base rs dw fP=y
 unfold eC at hy
 refine Call.of_wp (hW.free _ rfl) Tryz.func35 rfl rfl (zK 9 rfl (zh rfl (af rfl rfl aT) (by simp <;> omega) ?_))
 refine zk 2 rfl (zh rfl (af rfl rfl gv) (by simp <;> omega) ?_)
 refine zk 7 rfl (zc rfl (Ss hT.wr s mg.ok hd hm xz (by omega) EZ J hj) ?_)
 rw [f_]
 rintro v h (⟨I,rfl,s⟩ | ⟨I,q,rfl,s⟩)
 ·skip
  rw [aj I] at hy
  rw [hy] at I s
  rw [hy]
  refine zk 10 rfl (zt rfl (af rfl rfl aN) (by simpa using I) ?_)
  exact zk 8 rfl (WP.ret ⟨aa,_,rfl,.inl ⟨I,rfl,s⟩⟩)
 rw [ah (not_not_intro I)] at hy
 refine zk 10 rfl (zh rfl (af rfl rfl aN) (rfl) (zk 8 rfl (zc rfl (K2 (p:=p) (q:=q) (n:=n) hW s) ?_)))
 rintro v h (⟨hn,_,_⟩ | ⟨_,_,r,rfl,s⟩)
 ·omega
 rw [b9] at s
 refine zk 10 rfl (zh rfl (af rfl rfl aN) (rfl) (zk 8 rfl (zo rfl (c_ rfl (by rw [Te]; rfl)) ?_)))
 refine aA.b5 s rfl rfl rfl (fe rfl rfl) (fun p44 h s => ?_)
 refine zk 5 rfl (zc rfl (FG hW (s.ae [2])) ?_)
 rintro v h' ⟨rfl,rfl⟩
 refine zk 6 rfl (zc rfl (BF hW (s.ae [2])) ?_)
 rintro v h' ⟨rfl,rfl⟩
 rcases P9 with ⟨rfl,rfl,rfl⟩ | ⟨A,rc,B,hA,hcA,TR,TG,h8,rfl,fN⟩
 ·skip
  refine zk 5 rfl (zh rfl (af rfl rfl aN) (rfl) (zk 3 rfl ?_))
  have s1:=cP.2 ⟨.bw,(s.rI).ae [1,0]⟩
  exact Gd hT XY J B6 mg.cH s1 ⟨rfl,rfl,aa⟩ hy (fun E' h' I e1 e2 s'=>⟨aa,_,uJ e1 e2,.inl ⟨I,rfl,s'⟩⟩) (fun E' h' I e1 e2 s'=>⟨aa,_,uJ e1 e2,.inr ⟨I,_,_,_,rfl,s'⟩⟩)
 ·skip
  subst hA
  subst hcA
  have dS:¬(((iE base (base+szB A) (A++rc::B)).check:Nat):Int)=0:=by show ¬((base+szB A:Nat):Int)=0; omega
  refine zk 5 rfl (zt rfl (af rfl rfl aN) (by simpa using dS) ?_)
  refine zk 6 rfl (zc rfl (I5 (dw:=A) (fP:=B) (r:=rc) hT.wr B6 (J rc (by simp)) (s.ae [2])) ?_)
  rintro v h ⟨dt,ch,cs,rfl,s⟩
  have jr:=(s.buf (k:=1) rfl).view.cells
  have jT:=s.jb (j:=2) rfl
  have abj:[V.int .i64 (rc.kd:Int),V.int .u64 (rc.tx:Int),V.int .u64 (rc.pv:Int),V.int .u64 (rc.nx:Int),dt,ch].all storable=true:=mP jr.2 jT.2.1
  refine zk 4 rfl ?_
  refine aA.b5 s rfl rfl rfl (bX qX) (fun W_ h s => ?_)
  refine zS rfl (s.eH (j:=0) rfl gL rfl abj) ?_
  rintro h s
  refine zk 6 rfl (zt rfl (af rfl rfl eA) (rfl) (zm rfl (zf rfl (uh _ _) (zl rfl (s.ld (k:=0) rfl dL rfl) (zt rfl (af rfl rfl eA) (by rw [TG]; rfl) ?_)))))
  refine zk 2 rfl (zf rfl (y9 _ _) (zl rfl (s.ld (k:=0) rfl bJ rfl) (zo rfl (aU rfl rfl rfl (a_ aG (s.aE (k:=2) rfl (bg _ _)))) (zt rfl (af rfl rfl mG) (by simp; omega) ?_))))
  refine zk 7 rfl (zf rfl (y9 _ _) (zl rfl (s.ld (k:=0) rfl bJ rfl) (zo rfl (cf (p:=some (.int .i64 8)) (q:=none) (m:=none) (p':=some 8) (q':=none) (m':=none) rfl rfl rfl rfl rfl rfl rfl (eO (s.buf (k:=2) rfl).view (a:=8) h8).1) (zc rfl (mH hW (s.ae [2]) (rq (bg _ _) (a:=8) h8) (by have:=(J rc (by simp)).rd.data; simp; omega)) ?_))))
  intro u h s
  have s:=s.fU
  dsimp only [V.cells,List.length_cons,List.length_nil,Nat.reduceAdd,List.take,List.drop,List.cons_append,List.nil_append,aQ,bringA,setA] at s
  have hu:=(s.aE (k:=0) rfl (dy _ _)).cells
  refine zk 2 rfl (zf rfl (Ut _ _) (zS rfl (s.ey (k:=6) rfl gR rfl (by decide) hu.1 hu.2) ?_))
  intro h s
  refine zn rfl (zf rfl (Uu _ _) ?_)
  refine zS rfl (by exact s.ey (k:=6) rfl vy rfl (by decide) rfl rfl) (fun h s => ?_)
  refine zk 3 rfl (zf rfl (y9 _ _) (zl rfl (s.ld (k:=2) rfl bJ rfl) (zo rfl (cf (p:=none) (q:=some (.int .i64 8)) (m:=none) (p':=none) (q':=some 8) (m':=none) rfl rfl rfl rfl rfl rfl rfl (ik (s.buf (k:=1) rfl).view (b:=8) h8).1) (zc rfl (n4 hW s (k:=1) rfl (xw (bg _ _) (b:=8) h8) (by rw [dM]; omega)) ?_))))
  rintro v h' ⟨rfl,rfl⟩
  refine zo rfl (WQ (r:=.int .u64 ((base+szB dw:Nat):Int)) rfl rfl (abi.trans (by rw [show max (((iE base (base+szB A) (A++rc::B)).base:Nat):Int) ((leN (rc.data.take 8):Nat):Int)=((base+szB dw:Nat):Int) by rw [←fN]; show max (base:Int) _=_; omega]))) ?_
  refine zk 2 rfl ?_
  have s:=(cP.2 ⟨u,(s.ae [6,0])⟩).ae [0,5,2,4]
  have s:=(((s.del 4).del 4).del 4).del 4
  exact Gd hT XY J B6 mg.cH s ⟨rfl,rfl,aa⟩ hy (fun E' h' I e1 e2 s'=>⟨aa,_,uJ e1 e2,.inl ⟨I,rfl,s'⟩⟩) (fun E' h' I e1 e2 s'=>⟨aa,_,uJ e1 e2,.inr ⟨I,_,_,_,rfl,s'⟩⟩)
end
end Go.Proofs.YtefepnnfphdkpaaGreat.Am
