/- AtomCuts: a part of its proof; conditions: its statement's. -/
import Derived.Test.YtconhghphklfjaaGreatC36
namespace Go.Proofs.YtconhghphklfjaaGreat.Am
open Go
structure gh where
 aq:Il
 oh:List (Int×Nat)
def chgF (n:Nat)(c:cj)(ρ:gh): gh :=
 if c.whole=true then { aq:=cM c.aO c.b ρ.aq,oh:=cM c.aO n ρ.oh } else
 match lookL c.aO ρ.aq with
 | none=>ρ
 | some b=>{ aq:=cM c.aO (c9 b c.pos.toNat c.b) ρ.aq,oh:=cM c.aO n ρ.oh }
abbrev BU (v:V)(n:Nat): ax:=.pu (v=.int .u64 (n:Int))
def xI (x:Nat)(ρ:gh): ax:=xs fun i:Nat=>xs fun l:bZ=>xs fun k:Nat=>xs fun j:Nat=>xs fun m:bZ=>xs fun g:Nat =>
 star [.pu (eX k 0 l∧(ρ.aq.map (·.1)).Nodup∧eX g 0 m∧(ρ.oh.map (·.1)).Nodup),pt x (.cells 2 [.map i,.map j] false),fy i l k,bufsA l ρ.aq,fy j m g,eu BU m ρ.oh]
theorem Bv (l:List Nat): c9 l 0 l=l:=by simp [c9]
section
variable {told:dH} {h:H} {S:List ax} {X:ax} {u v:V} {b:List Nat} {x n:Nat} {c:cj} {ρ:gh}
theorem uT : Sat h (xI x ρ::S)↔∃i l k j m g,(eX k 0 l∧(ρ.aq.map (·.1)).Nodup∧eX g 0 m∧(ρ.oh.map (·.1)).Nodup) ∧
  Sat h (pt x (.cells 2 [.map i,.map j] false)::fy i l k::bufsA l ρ.aq::fy j m g::eu BU m ρ.oh::S):=by
 simp only [xI,gw,dZ,fq,cW,eL]
noncomputable def chR : Code:=cK [1,1,1] ((Tryz.f107.body).getD .skip)
theorem xJ (hT:W told){i k j g J:Nat}{l m:bZ}(hb:b.length=512)(hc:c.Ok)(U:eX k 0 l)(h2:(ρ.aq.map (·.1)).Nodup)(h3:eX g 0 m)(h4:(ρ.oh.map (·.1)).Nodup)
 (s:Sat h (bH v b::.cm u c.b::pt x (.cells 2 [.map i,.map j] false)::fy i l k::qE c.aO l ρ.aq::fy j m g::eu BU m ρ.oh::pt J (.cells 4 [.int .i64 c.aO,.int .i64 c.pos,.bool c.whole,u] false)::S))
 {E:List (Nat×V)}{Q:Ex→List (Nat×V)→H→Prop}(hE:Has E [(0,.ptr x 0),(1,.int .u64 (n:Int)),(5,.ptr J 0),(6,v)])
 (hq:∀E' h',Sat h' (xI x { aq:=cM c.aO (c9 b c.pos.toNat c.b) ρ.aq,oh:=cM c.aO n ρ.oh }::.cm u c.b::S)→Q .normal E' h'): WP ⟨Tryz.prog,told⟩ 52 chR E h Q:=by
 obtain ⟨c1,c2,c3,c4,c5,c6⟩:=hc
 obtain ⟨a,ha⟩:∃a:Nat,c.pos=a:=⟨c.pos.toNat,by omega⟩
 refine WP.has hE (zw ?_)
 have s0:=s
 have I:=c8 (s.buf (k:=0) rfl).view
 have Fc:=c8 (s.aG (k:=1) rfl (cJ _ _))
 rw [ha] at s
 have sl:=(er (s.buf (k:=0) rfl).view (a:=a) (by omega)).1
 refine WP.drawn [ai,ai,ai,ai,ai,ai,ai] rfl (by kernel_rfl) (by kernel_rfl) ?_
 refine zM rfl (zF rfl (r7 _ _) (zL rfl (s.ld (k:=7) rfl dr rfl) (zO rfl (cD (p:=some (.int .i64 (a:Int))) (q:=none) (m:=none) (p':=some a) (q':=none) (m':=none) rfl rfl rfl rfl (by simp [gW,bndV]) rfl rfl sl) ?_)))
 refine zF rfl (ow _ _) (zL rfl (s.ld (k:=7) rfl bL rfl) (aA.any rfl rfl rfl rfl (OpR.OV rfl s (cJ _ _) (by omega) (by omega) rfl rfl rfl rfl rfl) ?_))
 intro r h s
 refine aA.nil ⟨⟨aa,aa,aa,aa,aa,aa,aa,aa⟩,?_⟩
 have s0:=s
 refine WP.drawn [ai,ai,ai,ai,ai,ai,ai,ai,ai,ai,some (0,3),some (0,3),some (0,2),some (0,4),ai,ai,ai,ai,ai,ai] rfl (by kernel_rfl) (by kernel_rfl) ?_
 refine zM rfl (zN rfl (zF rfl (pP _ _) (zL rfl (s.ld (k:=2) rfl l_ rfl) (zF rfl (qo _ _) (zL rfl (s.ld (k:=7) rfl dr rfl) (zM rfl (zN rfl (zF rfl (Ka _ _) (zL rfl (s.ld (k:=2) rfl R_ rfl) (zF rfl (qo _ _) (zL rfl (s.ld (k:=7) rfl dr rfl) (zM rfl (zM rfl ?_)))))))))))))
 obtain ⟨w1,hh1,e1,s1⟩:=s.entry (j:=3) (n:=c.aO) rfl lu bF yK
 refine aA.any rfl rfl rfl rfl (OpR.mapEntry rfl rfl rfl e1) ?_
 rintro r1 uS ⟨rfl,rfl⟩
 refine zO rfl (cy rfl rfl) (aA.g8 rfl rfl rfl (OpR.entryStore rfl rfl rfl rfl (s1.entryStore (j:=3) (v:=v) rfl U)) ?_)
 intro r2 Sv s2
 obtain ⟨w3,hh3,e3,s3⟩:=s2.entry (j:=5) (n:=c.aO) rfl Tryz.underlying179 bF VI
 refine aA.any rfl rfl rfl rfl (OpR.mapEntry rfl rfl rfl e3) ?_
 rintro r3 hr3 ⟨rfl,rfl⟩
 refine zO rfl (cy rfl rfl) (aA.g8 rfl rfl rfl (OpR.entryStore rfl rfl rfl rfl (s3.entryStore (j:=5) (v:=.int .u64 (n:Int)) rfl h3)) ?_)
 intro r4 hh4 s
 refine aA.nil ⟨⟨aa,aa,aa,aa,aa,aa,aa,aa,aa,aa,fun _ _=>.inr ⟨rfl,⟨_,jE rfl (qo _ _)⟩,aW _ rfl⟩,wj (.inr ⟨rfl,⟨_,aV rfl (s0.ld (k:=7) rfl dr rfl)⟩,aW _ rfl⟩) (.inr ⟨rfl,⟨_,aV rfl (s1.ld (k:=7) rfl dr rfl)⟩,aW _ rfl⟩) (.inr ⟨rfl,⟨_,aV rfl (s2.ld (k:=7) rfl dr rfl)⟩,aW _ rfl⟩),fun _ _=>.inr ⟨rfl,⟨_,bk rfl⟩,I⟩,fun _ _=>.inr ⟨rfl,⟨_,bk rfl⟩,aW _ rfl⟩,aa,aa,aa,aa,aa,aa,aa⟩,?_⟩
 have s:=Rg (c:=k) (s.ae [0,3])
 have s:=(s.ae [5]).fP (B:=eu BU (jH c.aO (.int .u64 (n:Int)) g m) (cM c.aO n ρ.oh)) fun a b h=>E8 (f:=BU) (x:=n) (show V.int .u64 (n:Int)=_ from rfl) h
 refine hq _ _ ?_
 have e:c.pos.toNat=a:=by omega
 rw [e]
 have s:=s.del 6
 exact (uT.2 ⟨i,_,_,j,_,_,⟨yS rfl (eU _) U,iL h2,yS rfl (eU _) h3,iL h4⟩,s.ae [3,3,1,2,0]⟩)
theorem O3 (U:W told)(hρ:∀e∈ρ.aq,e.2.length=512)(hc:c.Ok)(s:Sat h (xI x ρ::.cm u c.b::S)):
  Call ⟨Tryz.prog,told⟩ 107 [.ptr x 0,.int .u64 (n:Int),.agg [.int .i64 c.aO,.int .i64 c.pos,.bool c.whole,u]] h fun v h'=>v=.bD []∧Sat h' (xI x (chgF n c ρ)::.cm u c.b::S):=by
 obtain ⟨i,l,k,j,m,g,⟨h1,h2,h3,h4⟩,s⟩:=uT.1 s
 have hu:=(s.aG (k:=5) rfl (cJ _ _)).cells
 have Fc:=c8 (s.aG (k:=5) rfl (cJ _ _))
 refine Call.of_wp (U.free _ rfl) Tryz.func107 rfl rfl (zg rfl (aB.cQ s rfl rfl rfl (gC rfl (by simp only [V.cells,iR,jg,hu.2]; rfl)) ?_))
 intro p5 h s
 dsimp only [V.cells] at s
 dsimp only [List.length_cons,List.length_nil,Nat.reduceAdd] at s
 refine zk 2 rfl ?_
 have e2:=s.Sf (n:=c.aO) (j:=2) rfl lu bF yK
 have I:c.whole=true→c.pos=0∧c.b.length=512:=hc.2.2.2.2.2
 have jY:c.b.length≤512:=by have:=hc.2.2.1; have:=hc.2.2.2.2.1; omega
 have s0:=s
 rcases hle:lookE c.aO l with _ | u0
 ·skip
  rw [hle] at e2
  obtain ⟨J,s⟩:=O1 hle (s.ae [3])
  have hX:=s
  have s:=s0
  refine WP.drawn [ai,ai,ai,ai,ai,ai,ai,ai,ai,ai,ai,ai] rfl (by kernel_rfl) (by kernel_rfl) ?_
  refine zM rfl (zN rfl (zF rfl (pP _ _) (zL rfl (s.ld (k:=1) rfl l_ rfl) (zF rfl (qo _ _) (zL rfl (s.ld (k:=0) rfl dr rfl) (zO rfl (gM rfl rfl e2) (zM rfl (zO rfl (cy rfl rfl) (zO rfl (cy rfl rfl) (zA rfl (zA rfl ?_)))))))))))
  refine aA.nil ⟨⟨aa,aa,aa,aa,aa,aa,aa,aa,aa,aa,aa,aa,aa⟩,?_⟩
  refine zw (WP.block (zg rfl (zf rfl (yM _ _) ?_)))
  by_cases hw:c.whole=true
  ·skip
   refine zt rfl (aV rfl (s.ld (k:=0) rfl jW rfl)) (hw) (zk 4 rfl (zf rfl (ow _ _) (zl rfl (s.ld (k:=0) rfl bL rfl) (zc rfl (j6 U (hX.ae [6]) (cJ _ _) (by omega)) ?_))))
   intro v h s
   dsimp only [aT,bringA] at s
   refine za rfl (zv ?_)
   refine xJ (n:=n) U (I hw).2 hc h1 h2 h3 h4 (s.ae [0,0,2,2,0,1,1,0]) ⟨rfl,rfl,rfl,rfl,aa⟩ (fun E' h' s' => ?_)
   have e:c9 c.b c.pos.toNat c.b=c.b:=by rw [(I hw).1]; exact Bv _
   rw [e] at s'
   refine ⟨aa,_,rfl,rfl,?_⟩
   rw [chgF,aj hw]
   exact s'
  ·skip
   refine zh rfl (aV rfl (s.ld (k:=0) rfl jW rfl)) (by simpa using hw) ?_
   refine zk 6 rfl (zo rfl (dX rfl rfl) (zk 3 rfl (WP.ret ⟨aa,_,rfl,?_⟩)))
   have e:chgF n c ρ=ρ:=by rw [chgF,af hw,J]
   rw [e]
   exact ⟨rfl,(uT.2 ⟨i,l,k,j,m,g,⟨h1,h2,h3,h4⟩,s.drop⟩)⟩
 ·skip
  rw [hle] at e2
  obtain ⟨y,J,s⟩:=O2 hle (s.ae [3])
  have hX:=s
  have s:=s0
  have ab5:=c8 (hX.buf (k:=0) rfl).view
  have hy:y.length=512:=hρ _ (fh J)
  refine WP.drawn [ai,ai,ai,ai,ai,ai,ai,ai,ai,ai,ai,ai] rfl (by kernel_rfl) (by kernel_rfl) ?_
  refine zM rfl (zN rfl (zF rfl (pP _ _) (zL rfl (s.ld (k:=1) rfl l_ rfl) (zF rfl (qo _ _) (zL rfl (s.ld (k:=0) rfl dr rfl) (zO rfl (gM rfl rfl e2) (zM rfl (zO rfl (cy rfl rfl) (zO rfl (cy rfl rfl) (zA rfl (zA rfl ?_)))))))))))
  refine aA.nil ⟨⟨aa,aa,aa,aa,aa,aa,aa,aa,aa,aa,aa,aa,aa⟩,?_⟩
  refine zw (WP.block (zg rfl (zf rfl (yM _ _) ?_)))
  by_cases hw:c.whole=true
  ·skip
   refine zt rfl (aV rfl (s.ld (k:=0) rfl jW rfl)) (hw) (zk 4 rfl (zf rfl (ow _ _) (zl rfl (s.ld (k:=0) rfl bL rfl) (zc rfl (j6 U ((hX.drop).ae [6]) (cJ _ _) (by omega)) ?_))))
   intro v h s
   dsimp only [aT,bringA] at s
   refine za rfl (zv ?_)
   refine xJ (n:=n) U (I hw).2 hc h1 h2 h3 h4 (s.ae [0,0,2,2,0,1,1,0]) ⟨rfl,rfl,rfl,rfl,aa⟩ (fun E' h' s' => ?_)
   have e:c9 c.b c.pos.toNat c.b=c.b:=by rw [(I hw).1]; exact Bv _
   rw [e] at s'
   refine ⟨aa,_,rfl,rfl,?_⟩
   rw [chgF,aj hw]
   exact s'
  ·skip
   refine zh rfl (aV rfl (s.ld (k:=0) rfl jW rfl)) (by simpa using hw) ?_
   refine za rfl (zv (zj rfl (zg rfl (zm rfl (zo rfl (dX rfl rfl) (za rfl (zv (zj rfl (WP.skip ?_)))))))))
   refine xJ (n:=n) U hy hc h1 h2 h3 h4 (hX.ae [0,6,2,2,0,1,1,0]) ⟨rfl,rfl,rfl,rfl,aa⟩ (fun E' h' s' => ?_)
   refine ⟨aa,_,rfl,rfl,?_⟩
   rw [chgF,af hw,J]
   exact s'
end
def szB : List bW→Nat
 | []=>0
 | r::l=>r.len+szB l
theorem fO : ∀ {rs:List bW} {n:Nat},(logB n rs).length=szB rs:=by
 intro rs
 induction rs with
 | nil=>intro n; rfl
 | cons r rs I=>intro n; simp only [logB,szB,bA,sx,I]; rfl
theorem rG {x y:List bW}: szB (x++y)=szB x+szB y:=by
 induction x with
 | nil=>simp [szB]
 | cons r x I=>simp only [fq,szB,I]; omega
theorem uU {y:List bW}: ∀ {x:List bW} {n:Nat},logB n (x++y)=logB n x++logB (n+szB x) y:=by
 intro x
 induction x with
 | nil=>intro n; simp [logB,szB]
 | cons r x I=>intro n; simp only [fq,logB,szB,I,bN,gB]
theorem xK {y:List bW}: ∀ {x:List bW} {a:Nat},jL a (x++y)=jL a x++jL (a+szB x) y:=by
 intro x
 induction x with
 | nil=>intro a; simp [jL,szB]
 | cons r x I=>intro a; simp only [fq,jL,szB,I,gB]
theorem zW : ∀ {rs:List bW} {a:Nat},(jL a rs).Pairwise (· < ·)∧∀s∈jL a rs,a≤s∧s<a+szB rs:=by
 intro rs
 induction rs with
 | nil=>intro a; exact ⟨List.Pairwise.nil,by simp [jL]⟩
 | cons r rs J =>
  intro a
  obtain ⟨U,I⟩:=J (a:=a+r.len)
  have h8:8≤r.len:=by rw [bW.len]; omega
  simp only [jL,szB,oY,fb]
  refine ⟨⟨fun s hs=>by have:=I s hs; omega,U⟩,?_⟩
  rintro s (rfl | hs)
  ·omega
  ·have:=I s hs; omega
theorem Rh : ∀ {rs:List bW} {a:Nat},(jL a rs).length=rs.length:=by
 intro rs
 induction rs with
 | nil=>intro a; rfl
 | cons r rs I=>intro a; simp only [jL,bj,I]
theorem Yf : ∀ {rs:List bW},rs.length*8≤szB rs:=by
 intro rs
 induction rs with
 | nil=>simp
 | cons r rs I=>have:8≤r.len:=(by rw [bW.len]; omega); simp only [szB,bj]; omega
theorem KK {base aC:Nat}{rs:List bW}(I:base+szB rs≤1099511627776)(J:szB rs≤16777216)(U:aC≤1099511627776): (iG base aC rs).Ok:=by
 have h4:=Yf (rs:=rs)
 refine ⟨?_,?_,?_,(zW (a:=0)).1,?_,?_,U⟩
 ·show base+(logB base rs).length≤_; rw [fO]; exact I
 ·show (jL 0 rs).length≤_; rw [Rh]; omega
 ·intro s hs
  have:=(zW (a:=0) (rs:=rs)).2 s hs
  show s<(logB base rs).length
  rw [fO]; omega
 ·exact aK _
 ·show (logB base rs).length≤_; rw [fO]; exact J
theorem Ri {base aC:Nat}{dm fQ:List bW}{r:bW}: (iG base aC (dm++r::fQ)).hasB (base+szB dm)=true:=by
 rw [Lg.hasB,tF]
 refine ⟨szB dm,?_,by simp [iG]⟩
 show szB dm∈jL 0 (dm++r::fQ)
 rw [xK,dU]
 exact List.mem_append.2 (.inr bn)
def Dn (n:Nat)(aR:List cj)(ρ:gh): gh:=aR.foldl (fun ρ c=>chgF n c ρ) ρ
def redoL : Nat→List bW→gh→gh
 | _,[],ρ=>ρ
 | n,r::l,ρ=>redoL (n+r.len) l (Dn n r.aR ρ)
theorem FC {α:Type}{n:Int}{a:α}: ∀ {l:List (Int×α)} {e:Int×α},e∈cM n a l→e=(n,a)∨e∈l:=Dh
structure gh.Ok (ρ:gh): Prop where
 len:∀e∈ρ.aq,e.2.length=512
 low:∀k∈ρ.aq.map (·.1),(0:Int)≤k∧k<65536
 dup:(ρ.aq.map (·.1)).Nodup
theorem KL {n:Nat}{c:cj}{ρ:gh}(h:ρ.Ok)(I:c.Ok): (chgF n c ρ).Ok:=by
 have U:c.whole=true→c.pos=0∧c.b.length=512:=I.2.2.2.2.2
 have key:∀b:List Nat,b.length=512→∀L,(gh.mk (cM c.aO b ρ.aq) L).Ok:=fun b hb L=>by
  refine ⟨fun e he => ?_,fun k hk => ?_,iL h.dup⟩
  ·rcases FC he with rfl | he
   ·exact hb
   ·exact h.len e he
  ·rcases oM.1 hk with rfl | hk
   ·exact ⟨I.1,I.2.1⟩
   ·exact h.low k hk
 unfold chgF
 split
 ·rename_i hw
  exact key _ (U hw).2 _
 ·split
  ·exact h
  ·rename_i b hb
   have J:=h.len _ (fh hb)
   simp only at J
   have:=I.2.2.1
   have:=I.2.2.2.2.1
   refine key _ ?_ _
   rw [iJ (by omega),J]
theorem Im {n:Nat}: ∀ {aR:List cj} {ρ:gh},ρ.Ok→(∀c∈aR,c.Ok)→(Dn n aR ρ).Ok:=by
 intro aR
 induction aR with
 | nil=>intro ρ h _; exact h
 | cons c aR J=>intro ρ h I; exact J (KL h (I c bn)) (fun x U=>I x (bl _ U))
theorem bW.Ok.aR {r:bW}(h:r.Ok): ∀c∈r.aR,c.Ok:=by
 have:=h.good
 simp only [dK,aY,o_,ej] at this
 exact this.2
theorem BV : ∀ {rs:List bW} {n:Nat} {ρ:gh},ρ.Ok→(∀r∈rs,r.Ok)→(redoL n rs ρ).Ok:=by
 intro rs
 induction rs with
 | nil=>intro n ρ h _; exact h
 | cons r rs J=>intro n ρ h I; exact J (Im h (I r bn).aR) (fun x U=>I x (bl _ U))
def ob (ρ:gh)(k:Int): Nat:=(lookL k ρ.oh).getD 0
def againW (ρ:gh): List Int→Dk→Int×Dk
 | [],δ=>(0,δ)
 | k::l,δ =>
  match lookL k ρ.aq with
  | some b=>if bU b=true∧k<δ.aq.length then (if (δ.bI k (cO b (ob ρ k))).1≠0 then δ.bI k (cO b (ob ρ k)) else againW ρ l (δ.bI k (cO b (ob ρ k))).2) else againW ρ l δ
  | none=>againW ρ l δ
def mh (ρ:gh)(δ:Dk): Int×Dk :=
 if (againW ρ (aJ ρ.aq) δ).1≠0 then againW ρ (aJ ρ.aq) δ else if ρ.aq=[] then (0,(againW ρ (aJ ρ.aq) δ).2) else (againW ρ (aJ ρ.aq) δ).2.dL
section
variable {told:dH} {h:H} {S:List ax} {X:ax} {ch fv v op dv:V} {cs:List V} {a p q r x n base aC c0:Nat} {ρ:gh} {δ:Dk}
noncomputable def agI : Code:=cK [1,1,1,0,1,0,0,0,1,1,0,1,0,0] ((Tryz.f62.body).getD .skip)
theorem O4 (hT:W told){aR:List cj}(qG:∀c∈aR,c.Ok){av nv:V}: ∀(j i:Nat) (ρ:gh) (h:H) (E:List (Nat×V)) (Q:Ex→List (Nat×V)→H→Prop),i+j=aR.length→aR.length<4294967296→ρ.Ok →
  Sat h (xI x ρ::.arr 4 ch cs::cV cs aR::S) →
  Has E [(0,av),(5,.ptr x 0),(6,.fn (.func 107) [.ptr x 0] []),(7,.int .u64 (n:Int)),(9,nv),(38,ch),(39,.int .i64 aR.length),(40,.int .i64 i)] →
  (∀E' h',Has E' [(0,av),(5,.ptr x 0),(6,.fn (.func 107) [.ptr x 0] []),(9,nv)]→Sat h' (xI x (Dn n (aR.drop i) ρ)::.arr 4 ch cs::cV cs aR::S)→Q (.exit 2) E' h') →
  WP ⟨Tryz.prog,told⟩ 110 (.loop agI) E h Q:=by
 intro j
 induction j with
 | zero =>
  intro i ρ h E Q hi hl I s hE hq
  refine WP.loop (WP.has hE (zg rfl (zh rfl (ah rfl rfl bu) (by simp; omega) ?_)))
  exact zk 3 rfl (WP.exit (hq _ _ ⟨rfl,rfl,rfl,rfl,aa⟩ (by rw [tu (by omega)]; exact s)))
 | succ j ih =>
  intro i ρ h E Q hi hl I s hE hq
  have hc:aR[i]?=some (aR[i]'(by omega)):=bh _
  generalize (aR[i]'(by omega))=c at hc
  have U:=qG c (br hc)
  have J:aR.drop i=c::aR.drop (i+1):=by
   obtain ⟨h1,rfl⟩:=List.getElem?_eq_some_iff.1 hc
   exact kR h1
  obtain ⟨id,off,u,e1,e2,u1,u2,u3,s⟩:=Hr (s.ae [1,1]) hc
  dsimp only [aT,bringA] at s
  refine WP.loop (WP.has hE (zg rfl (zt rfl (ah rfl rfl bu) (by simp; omega) ?_)))
  refine zk 5 rfl (WP.block (zg rfl (zo rfl (dY (r:=.ptr id off) rfl rfl e1) (zl rfl e2 ?_))))
  refine aB.cQ s rfl rfl rfl (cC ry) (fun Sw h s => ?_)
  dsimp only [V.cells,List.length_cons,List.length_nil,Nat.reduceAdd] at s
  refine zS rfl (s.g9 (j:=0) rfl sD rfl (by simp only [iR,jg,u2]; rfl)) ?_
  rintro h s
  dsimp only [setA] at s
  refine zk 4 rfl (zl rfl (s.fG (k:=0) rfl Lr sD) (zc rfl (O3 (n:=n) hT I.len U (s.ae [4,1])) ?_))
  rintro v h ⟨rfl,s⟩
  dsimp only [aT,bringA] at s
  refine zv (zr rfl (zb rfl (by exact bQ (aU (by omega) (by omega))) ?_))
  refine zm rfl (zv ?_)
  have s:=(s.ae [0,2,2]).del 3
  have s:=s.del 3
  refine ih (i+1) (chgF n c ρ) _ _ Q (by omega) hl (KL I U) s ⟨rfl,rfl,rfl,rfl,rfl,rfl,rfl,rfl,aa⟩ (fun E' h' gu s'=>hq E' h' gu ?_)
  rw [J]
  exact s'
theorem Io (U:WR told){dm fQ:List bW}{r:bW}(J:(iG base aC (dm++r::fQ)).Ok)(I:r.Ok)(s:Sat h (bf q p (iG base aC (dm++r::fQ))::S)):
  Call ⟨Tryz.prog,told⟩ 20 [.ptr q 0,.int .u64 ((base+szB dm:Nat):Int)] h fun v h'=>∃dt ch cs,v=.bD [.agg (iC r.kd r.tx r.pv r.nx dt ch),.int .u64 ((base+szB dm+r.len:Nat):Int),.int .i64 0] ∧
   Sat h' (bf q p (iG base aC (dm++r::fQ))::bH dt r.data::.arr 4 ch cs::cV cs r.aR::S):=by
 refine (OJ (n:=base+szB dm) (a:=szB dm) (pre:=logB base dm) (rest:=logB (base+szB dm+r.len) fQ) U I.good I.kd I.rd rfl I.len fO ?_ rfl Ri J s).mono fun v h' hx => ?_
 ·show logB base (dm++r::fQ)=_
  rw [uU,logB]
  rfl
 ·have e:base+szB dm+r.len=base+szB dm+8+(cY r.kd r.tx r.pv r.nx r.data r.aR).length:=by rw [bW.len,bW.bd]; omega
  rw [e]
  exact hx
noncomputable def agO : Code:=cK [1,1,1,0,1,0,0] ((Tryz.f62.body).getD .skip)
theorem Mh (hT:WR told){rs:List bW}{wv:Nat}(qH:∀r∈rs,r.Ok)(I:(iG base aC rs).Ok): ∀(fQ dm:List bW) (ρ:gh) (h:H) (E:List (Nat×V)) (Q:Ex→List (Nat×V)→H→Prop),rs=dm++fQ→ρ.Ok →
  Sat h (xI x ρ::pt a (.cells 6 (qy a p q r op dv wv) false)::bf q p (iG base aC rs)::S) →
  Has E [(0,.ptr a 0),(5,.ptr x 0),(6,.fn (.func 107) [.ptr x 0] []),(7,.int .u64 ((base+szB dm:Nat):Int))] →
  (∀E' h',Has E' [(0,.ptr a 0),(5,.ptr x 0)]→Sat h' (xI x (redoL (base+szB dm) fQ ρ)::pt a (.cells 6 (qy a p q r op dv wv) false)::bf q p (iG base aC rs)::S)→Q (.exit 0) E' h') →
  WP ⟨Tryz.prog,told⟩ 110 (.loop agO) E h Q:=by
 have hW:=hT.w
 intro fQ
 induction fQ with
 | nil =>
  intro dm ρ h E Q he J s U hq
  refine WP.loop (WP.has U ?_)
  have s:=s.ae [1,1,0]
  dsimp only [qy,bringA,getA,aT] at s
  have eO:=I.size
  have hn:base+szB dm=(iG base aC rs).base+(iG base aC rs).b.length:=by
   show _=base+(logB base rs).length
   rw [fO,he,bR]
  refine WP.block (zK 4 rfl (zf rfl (lq _ _) (zl rfl (s.ld (k:=0) rfl nu rfl) (zm rfl (zc rfl (Dc (n:=base+szB dm) hW (s.ae [1]) I (by omega) (.inl hn)) ?_)))))
  rintro v h ⟨e,he0,rfl,s⟩
  refine zk 4 rfl ?_
  refine aB.cQ s rfl rfl rfl (cC ru) (fun p8 h s => ?_)
  dsimp only [V.cells,List.length_cons,List.length_nil,Nat.reduceAdd,aT,bringA] at s
  refine zS rfl (s.g9 (j:=0) rfl gE rfl rfl) (fun h s => ?_)
  dsimp only [setA] at s
  refine zk 7 rfl (zt rfl (ah rfl rfl aX) (by simp; exact he0) ?_)
  exact zk 2 rfl (WP.exit (hq _ _ ⟨rfl,rfl,aa⟩ ((s.drop).ae [2,1,0])))
 | cons y fQ ih =>
  intro dm ρ h E Q he J s U hq
  subst he
  have hy:=qH y (by simp)
  refine WP.loop (WP.has U ?_)
  have s:=s.ae [1,1,0]
  dsimp only [qy,bringA,getA,aT] at s
  refine WP.block (zK 4 rfl (zf rfl (lq _ _) (zl rfl (s.ld (k:=0) rfl nu rfl) (zm rfl (zc rfl (Io (dm:=dm) (fQ:=fQ) (r:=y) hT I hy (s.ae [1])) ?_)))))
  rintro v h ⟨dt,ch,cs,rfl,s⟩
  dsimp only [aT,bringA] at s
  have iY:=(s.buf (k:=1) rfl).view.cells
  have jZ:=s.kJ (j:=2) rfl
  have fW:[V.int .i64 (y.kd:Int),V.int .u64 (y.tx:Int),V.int .u64 (y.pv:Int),V.int .u64 (y.nx:Int),dt,ch].all storable=true:=mS iY.2 jZ.2.1
  refine zk 4 rfl ?_
  refine aB.cQ s rfl rfl rfl (cC ru) (fun p8 h s => ?_)
  dsimp only [V.cells,List.length_cons,List.length_nil,Nat.reduceAdd] at s
  refine zS rfl (s.g9 (j:=0) rfl gE rfl fW) ?_
  rintro h s
  dsimp only [setA] at s
  refine zk 7 rfl (zh rfl (ah rfl rfl aX) (rfl) (zk 6 rfl (zf rfl (mR _ _) (zl rfl (s.ld (k:=0) rfl uw rfl) (zo rfl (a_ rfl rfl rfl (s.wA (j1:=3) (j2:=4) rfl rfl iM)) (zk 2 rfl (WP.block ?_)))))))
  have s:=s.ae [6,3,3,3,1]
  dsimp only [bringA,getA,aT] at s
  refine O4 (n:=base+szB dm) hW hy.aR y.aR.length 0 ρ h _ _ (by omega) (by have:=hy.rd.many; omega) J s ⟨rfl,rfl,rfl,rfl,rfl,rfl,rfl,rfl,aa⟩ (fun E h U s => ?_)
  rw [dS] at s
  refine WP.has U (zr rfl (zk 2 rfl (zv ?_)))
  have s:=(((s.del 6).del 5).ae [0,2,2]).del 3
  have s:=s.del 3
  refine ih (dm++[y]) (Dn (base+szB dm) y.aR ρ) _ _ Q (by simp) (Im J hy.aR) s ⟨rfl,rfl,rfl,?_,aa⟩ (fun E' h' gu s'=>hq E' h' gu ?_)
  ·rw [rG]
   show some (V.int .u64 ((base+szB dm+y.len:Nat):Int))=_
   rw [show base+(szB dm+szB [y])=base+szB dm+y.len by simp only [szB]; omega]
  ·rw [redoL,show base+szB dm+y.len=base+szB (dm++[y]) by rw [rG]; simp only [szB]; omega]
   exact s'
structure oT (δ:Dk)(m:Nat): Prop where
 ok:δ.Ok
 wait:δ.waiting.length+m≤268435456
 now:∀e∈δ.now,0≤e.1∧e.1<δ.aq.length
theorem oT.less {δ:Dk}{m:Nat}(h:oT δ (m+1)): oT δ m:=⟨h.ok,by have:=h.wait; omega,h.now⟩
theorem oT.write {δ:Dk}{m:Nat}{k:Int}{b:List Nat}(h:oT δ (m+1))(h0:0≤k)(h1:k<δ.aq.length): oT (δ.bI k b).2 m∧(δ.bI k b).2.aq=δ.aq:=by
 have hw:=h.wait
 have I:=h.ok.bI (n:=k) (b:=b)
 unfold Dk.bI at I ⊢
 split at I
 ·rename_i J
  rw [aj J]
  exact ⟨⟨I,by simp only; omega,h.now⟩,rfl⟩
 ·rename_i J
  rw [af J]
  split at I
  ·rename_i U
   rw [aj U]
   exact ⟨⟨I,by simp only; omega,h.now⟩,rfl⟩
  ·rename_i U
   rw [af U]
   split at I
   ·rename_i h3
    rw [aj h3]
    exact ⟨⟨I,by show δ.waiting.length+m≤_; omega,h.now⟩,rfl⟩
   ·rename_i h3
    rw [af h3]
    refine ⟨⟨I,?_,fun e he => ?_⟩,rfl⟩
    ·show (δ.waiting++[(k.toNat,b)]).length+m≤_
     simp only [bA,bj,bY]; omega
    ·rcases FC he with rfl | he
     ·exact ⟨h0,h1⟩
     ·exact h.now e he
noncomputable def agS : Code:=cK [1,1,1,1,0,1,0,0] ((Tryz.f62.body).getD .skip)
theorem JE (hT:W told){ks:List Int}{kv:V}{i0 j0 wv:Nat}(N_:ks.length≤65536)(sE:∀k∈ks,0≤k)(vh:∀k∈ks,(lookL k ρ.aq).isSome=true)(hlen:∀e∈ρ.aq,e.2.length=512): ∀(j i:Nat) (δ:Dk) (h:H) (E:List (Nat×V)) (Q:Ex→List (Nat×V)→H→Prop),i+j=ks.length→oT δ j →
  Sat h (pt x (.cells 2 [.map i0,.map j0] false)::i_ (fun v b=>.cm v b) (.map i0) ρ.aq::i_ BU (.map j0) ρ.oh::.arr 1 kv (eN ks)::pt a (.cells 6 (qy a p q r op dv wv) false)::aD p δ::S) →
  Has E [(0,.ptr a 0),(5,.ptr x 0),(55,kv),(56,.int .i64 ks.length),(57,.int .i64 i)] →
  (∀E' h',(againW ρ (ks.drop i) δ).1≠0→look E' 4=some (.int .i64 (againW ρ (ks.drop i) δ).1)→Sat h' (pt a (.cells 6 (qy a p q r op dv wv) false)::aD p (againW ρ (ks.drop i) δ).2::S)→Q .ret E' h') →
  (∀E' h',(againW ρ (ks.drop i) δ).1=0→oT (againW ρ (ks.drop i) δ).2 0→Has E' [(0,.ptr a 0),(5,.ptr x 0)]→Sat h' (pt x (.cells 2 [.map i0,.map j0] false)::i_ (fun v b=>.cm v b) (.map i0) ρ.aq::pt a (.cells 6 (qy a p q r op dv wv) false)::aD p (againW ρ (ks.drop i) δ).2::S)→Q (.exit 4) E' h') →
  WP ⟨Tryz.prog,told⟩ 110 (.loop agS) E h Q:=by
 intro j
 induction j with
 | zero =>
  intro i δ h E Q hi I s hE J U
  rw [tu (by omega)] at J U
  refine WP.loop (WP.has hE (zg rfl (zh rfl (ah rfl rfl bu) (by simp; omega) ?_)))
  exact zk 3 rfl (WP.exit (U _ _ rfl I ⟨rfl,rfl,aa⟩ ((s.ae [0,0,2,2]).del 5 |>.del 4)))
 | succ j ih =>
  intro i δ h E Q hi I s hE J U
  have hn:ks[i]?=some (ks[i]'(by omega)):=bh _
  generalize (ks[i]'(by omega))=k at hn
  have ZD:=br hn
  have UN:=sE k ZD
  have j8:ks.drop i=k::ks.drop (i+1):=by
   obtain ⟨J,rfl⟩:=List.getElem?_eq_some_iff.1 hn
   exact kR J
  obtain ⟨b,hb⟩:=Option.isSome_iff_exists.1 (vh k ZD)
  have sK:b.length=512:=hlen _ (fh hb)
  rw [j8,againW,hb] at J U
  simp only at J U
  have hc:(eN ks)[i]?=some (.int .i64 k):=by simp [eN,hn]
  obtain ⟨id,off,e1,e2⟩:=kV s (k:=3) rfl hc eC jG
  refine WP.loop (WP.has hE (zg rfl (zt rfl (ah rfl rfl bu) (by simp; omega) ?_)))
  refine zk 5 rfl (WP.block (zg rfl (zo rfl (dY (r:=.ptr id off) rfl rfl e1) (zl rfl (e2 _ dr) (zk 3 rfl ?_)))))
  rcases mw (n:=k) (fun _ _=>aE.cm _ _) (s.ae [1]) lu bF yK with ⟨hl,_⟩ | ⟨u,b',hl,_,f2,s⟩
  ·rw [hb] at hl; cases hl
  rw [hb] at hl
  injection hl with hl
  subst hl
  dsimp only [qy,aT,bringA] at s
  obtain ⟨f4,s⟩:fc Tryz.prog h 179 (.map j0) (.int .i64 k) false=some (.int .u64 (ob ρ k:Int))∧Sat h (i_ BU (.map j0) ρ.oh::.cm u b::i_ (fun v b=>.cm v b) (.map i0) ρ.aq::pt x (.cells 2 [.map i0,.map j0] false)::.arr 1 kv (eN ks)::pt a (.cells 6 (qy a p q r op dv wv) false)::aD p δ::S):=by
   have s:=s.ae [3,0,0,0]
   rcases mw (n:=k) (fun _ _=>aE.pu _) s Tryz.underlying179 bF VI with ⟨hl,_,f⟩ | ⟨w,y,hl,_,f,s⟩
   ·exact ⟨by rw [f,ob,hl]; rfl,s⟩
   ·obtain ⟨rfl,s2⟩:=eL.1 s
    exact ⟨by rw [f,ob,hl]; rfl,s2⟩
  have s:=s.ae [3,4,1]
  dsimp only [qy,bringA,getA,aT] at s
  have Fc:=c8 (s.aG (k:=2) rfl (cJ _ _))
  refine WP.drawn [ai,ai,ai,ai,ai,ai,ai,ai,ai,ai,ai,ai,ai,ai,ai,ai,ai,ai] rfl (by kernel_rfl) (by kernel_rfl) ?_
  refine zM rfl (zN rfl (zF rfl (pP _ _) (zL rfl (s.ld (k:=0) rfl l_ rfl) (zM rfl (zO rfl (gM rfl rfl f2) (zM rfl (zN rfl (zF rfl (Ka _ _) (zL rfl (s.ld (k:=0) rfl R_ rfl) (zM rfl (zO rfl (gM rfl rfl f4) (aA.any rfl rfl rfl rfl (OpR.call rfl rfl rfl rfl (Ki (n:=ob ρ k) hT (s.ae [2]) (cJ _ _) (by omega))) ?_))))))))))))
  rintro v h (⟨hg,u2,rfl,s⟩ | ⟨hg,rfl,s⟩)
  ·skip
   dsimp only [aT,bringA] at s
   refine zM rfl (zO rfl (cy rfl rfl) (zO rfl (cy rfl rfl) (zA rfl (zA rfl ?_))))
   refine aA.nil ⟨⟨aa,aa,aa,aa,aa,aa,aa,aa,aa,aa,aa,aa,aa,aa,aa,aa,aa,aa,aa⟩,?_⟩
   refine zK 4 rfl (zh rfl (ah rfl rfl aX) (rfl) (zk 4 rfl (zf rfl (r8 _ _) (zl rfl (s.ld (k:=3) rfl jR rfl) (zc rfl (BL hT (s.ae [7])) ?_)))))
   rintro v h' ⟨rfl,rfl⟩
   by_cases hp:k<δ.aq.length
   ·skip
    rw [aj ⟨hg,hp⟩] at J U
    have lK:=(pX (n:=ob ρ k) sK).2.1
    have Hy:=I.wait
    have hw:=I.write (k:=k) (b:=cO b (ob ρ k)) UN hp
    refine zh rfl (ah rfl rfl nq) (by simp; omega) ?_
    refine zk 8 rfl (zf rfl (r8 _ _) (zl rfl (s.ld (k:=3) rfl jR rfl) (zk 2 rfl (zc rfl (Kk hT (s.ae [7,0]) (bE _ _) (by omega) I.ok.aF (by omega)) ?_))))
    rintro v h ⟨rfl,s⟩
    dsimp only [aT,bringA] at s
    by_cases h0:(δ.bI k (cO b (ob ρ k))).1=0
    ·rw [af (not_not_intro h0)] at J U
     rw [h0]
     refine za rfl (zv (zg rfl (zm rfl (zh rfl (ah rfl rfl aX) (rfl) (zv (zj rfl (WP.skip (zr rfl (zb rfl (by exact bQ (aU (by omega) (by omega))) ?_)))))))))
     refine zm rfl (zv ?_)
     have s:=(s.ae [3,5,4,4,3,0]).del 6
     have s:=s.del 6
     dsimp only [bringA,getA,aT] at s
     exact ih (i+1) _ _ _ Q (by omega) hw.1 s ⟨rfl,rfl,rfl,rfl,rfl,aa⟩ J U
    ·skip
     rw [aj h0] at J U
     refine zk 5 rfl (zt rfl (ah rfl rfl aX) (by simpa using h0) ?_)
     refine zk 7 rfl (WP.ret ?_)
     have s:=(s.ae [4,0]).del 2
     exact J _ _ h0 rfl ((((s.del 2).del 2).del 2).del 2 |>.del 2)
   ·skip
    rw [af (fun q=>hp q.2)] at J U
    refine zt rfl (ah rfl rfl nq) (by simp; omega) ?_
    refine zk 3 rfl (WP.exit (zr rfl (zb rfl (by exact bQ (aU (by omega) (by omega))) ?_)))
    refine zm rfl (zv ?_)
    have s:=(s.ae [2,4,3,3,2,2]).del 6
    have s:=s.del 6
    dsimp only [bringA,getA,aT] at s
    exact ih (i+1) _ _ _ Q (by omega) I.less s ⟨rfl,rfl,rfl,rfl,rfl,aa⟩ J U
  ·skip
   rw [af (fun q=>by rw [hg] at q; cases q.1)] at J U
   dsimp only [aT,bringA] at s
   refine zM rfl (zO rfl (cy rfl rfl) (zO rfl (cy rfl rfl) (zA rfl (zA rfl ?_))))
   refine aA.nil ⟨⟨aa,aa,aa,aa,aa,aa,aa,aa,aa,aa,aa,aa,aa,aa,aa,aa,aa,aa,aa⟩,?_⟩
   refine zK 4 rfl (zt rfl (ah rfl rfl aX) (rfl) (zk 11 rfl (WP.exit (zr rfl (zb rfl (by exact bQ (aU (by omega) (by omega))) ?_)))))
   refine zm rfl (zv ?_)
   have s:=(s.ae [1,3,2,2,1,1]).del 6
   exact ih (i+1) _ _ _ Q (by omega) I.less s ⟨rfl,rfl,rfl,rfl,rfl,aa⟩ J U
end
def gh.none : gh:=⟨[],[]⟩
theorem AS : gh.none.Ok:=⟨fun e h=>(by cases h),fun k h=>(by cases h),kq⟩
theorem gh.Ok.few {ρ:gh}(h:ρ.Ok): ρ.aq.length≤65536:=by
 have:=vn 65536 _ h.dup (fun n I=>by have:=h.low n I; omega)
 simpa using this
theorem Ip {α:Type}{m:List (Int×α)}: (aJ m).length=m.length:=by rw [aJ,(eB _).length_eq,en]
theorem BW {α:Type}{m:List (Int×α)}{k:Int}: k∈aJ m↔k∈m.map (·.1):=(eB _).mem_iff
section
variable {told:dH} {h:H} {S:List ax} {op:V} {data:List Nat} {a p q r base aC c0:Nat} {δ:Dk}
theorem Rj (hT:W4 told){rs dm fQ:List bW}(he:rs=dm++fQ)(qH:∀r∈rs,r.Ok)(Es:(iG base aC rs).Ok)(J:oT δ 65536)(s:Sat h (cu a p q r op data c0::bf q p (iG base aC rs)::aD p δ::S)):
  Call ⟨Tryz.prog,told⟩ 62 [.ptr a 0,.int .u64 ((base+szB dm:Nat):Int)] h fun v h' =>
   v=.int .i64 (mh (redoL (base+szB dm) fQ gh.none) δ).1∧Sat h' (cu a p q r op data c0::bf q p (iG base aC rs)::aD p (mh (redoL (base+szB dm) fQ gh.none) δ).2::S):=by
 have hW:=hT.w.w.w
 have I:(redoL (base+szB dm) fQ gh.none).Ok:=BV AS (fun r hr=>qH r (by rw [he]; exact List.mem_append.2 (.inr hr)))
 obtain ⟨dv,s⟩:=bM.1 s
 refine Call.of_wp (hW.free _ rfl) Tryz.func62 rfl rfl (zK 6 rfl ?_)
 refine aB.yJ s rfl rfl rfl rfl (fun p18 h s => ?_)
 refine aB.yJ s rfl rfl rfl rfl (fun p19 h s => ?_)
 refine zo rfl (c7 rfl (by rw [Sa]; rfl)) ?_
 refine aB.cQ s rfl rfl rfl (gC rfl rfl) (fun V4 h s => ?_)
 refine zk 5 rfl (zo rfl (AA rfl rfl) (zk 8 rfl (WP.block ?_)))
 have s:=(s.gD (φ:=True) aa).gD (φ:=True) aa
 have s:=uT (ρ:=gh.none).2 ⟨_,[],0,_,[],0,⟨aa,kq,aa,kq⟩,s.ae [2,3,0,1,0]⟩
 refine Mh hT.wr qH Es fQ dm gh.none h _ _ he AS (s.ae [0,0,1]) ⟨rfl,rfl,rfl,rfl,aa⟩ (fun E h hE s => ?_)
 generalize hρ:redoL (base+szB dm) fQ gh.none=ρ at I s
 refine WP.has hE ?_
 obtain ⟨i,l,k,j,m,g,⟨h1,h2,h3,h4⟩,s⟩:=uT.1 s
 have s:=JD (s.ae [2])
 have s:=eA.2 ⟨i,l,k,rfl,h1,h2,s.ae [2,0]⟩
 have s:=eA.2 ⟨j,m,g,rfl,h3,h4,s.ae [2,2]⟩
 have s:=s.ae [2,1,0]
 have aaQ:=I.few
 refine zK 5 rfl (zf rfl (pP _ _) (zl rfl (s.ld (k:=0) rfl l_ rfl) (zc rfl (xx hW s) ?_)))
 rintro v h ⟨kb,rfl,s⟩
 refine zc rfl (pU hW (s.ae [0,1]) (by decide) (by omega) (fun n hn=>wf_i64 (by have:=I.low n hn; omega) (by have:=I.low n hn; omega))) ?_
 intro kv h s
 refine zo rfl (a_ rfl rfl rfl (s.iK (n:=(aJ ρ.aq).length) (j:=0) rfl (by simp [eN]) (by decide) eC)) ?_
 refine zk 2 rfl (WP.block ?_)
 have s:=(s.ae [3,2,2,0,1,3]).del 6
 refine JE hW (ks:=aJ ρ.aq) (by rw [Ip]; exact aaQ) (fun k hk=>(I.low k (BW.1 hk)).1) (fun k hk=>by
  cases hl:lookL k ρ.aq with
  | none=>exact absurd (BW.1 hk) (f_.1 hl)
  | some b=>rfl) I.len (aJ ρ.aq).length 0 δ h _ _ (by omega) (by rw [Ip]; exact ⟨J.ok,by have:=J.wait; omega,J.now⟩) s ⟨rfl,rfl,rfl,rfl,rfl,aa⟩ (fun E' h' U e2 s' => ?_) (fun E h U e2 hE s => ?_)
 ·rw [dS] at U e2 s'
  have e:mh ρ δ=againW ρ (aJ ρ.aq) δ:=by rw [mh,aj U]
  rw [e]
  exact ⟨aa,_,oK e2,rfl,(bM.2 ⟨dv,s'.ae [0,2]⟩).ae [0,1,0]⟩
 ·rw [dS] at U e2 s
  refine WP.has hE (zK 5 rfl (zf rfl (pP _ _) (zl rfl (s.ld (k:=0) rfl l_ rfl) (zo rfl (a_ rfl rfl rfl (BH (s.ae [1]) lu)) ?_))))
  by_cases hz:ρ.aq=[]
  ·skip
   have e:mh ρ δ=(0,(againW ρ (aJ ρ.aq) δ).2):=by rw [mh,af (not_not_intro U),aj hz]
   rw [e]
   refine zt rfl (ah rfl rfl cI) (by rw [hz]; rfl) ?_
   exact zk 6 rfl (WP.ret ⟨aa,_,rfl,rfl,(bM.2 ⟨dv,((s.drop.drop).ae [0,2])⟩).ae [0,1,0]⟩)
  ·skip
   have e:mh ρ δ=(againW ρ (aJ ρ.aq) δ).2.dL:=by rw [mh,af (not_not_intro U),af hz]
   rw [e]
   refine zh rfl (ah rfl rfl cI) (by have:ρ.aq.length≠0:=fun h=>hz (qL h); simp; omega) ?_
   refine zk 7 rfl (zf rfl (r8 _ _) (zl rfl (s.ld (k:=2) rfl jR rfl) (zc rfl (Kq hT.w.w (s.ae [3]) e2.ok e2.now) ?_)))
   rintro v h ⟨rfl,s⟩
   dsimp only [qy,V.cells,List.take,List.length_cons,List.length_nil,Nat.reduceAdd,List.drop,List.cons_append,List.nil_append,aT,bringA,getA] at s
   exact zk 2 rfl (WP.ret ⟨aa,_,rfl,rfl,(bM.2 ⟨dv,(((s.ae [3,4,3,0]).del 4).del 4)⟩).ae [0,0,0]⟩)
end
def BX (base aC:Nat)(rs:List bW)(data:List Nat)(dm fQ:List bW): Prop :=
 rs=dm++fQ∧((aC=0∧data=[]∧dm=[])∨∃A rc B,rs=A++rc::B∧aC=base+szB A∧aC≠0∧rc.kd=8∧8≤rc.data.length∧data=rc.data.drop 8∧max base (leN (rc.data.take 8))=base+szB dm)
def eP (δ:Dk)(base:Nat)(rs dm fQ:List bW): Int×Dk :=
 if (δ.cA (szB rs)).1≠0 then δ.cA (szB rs) else mh (redoL (base+szB dm) fQ gh.none) (δ.cA (szB rs)).2
theorem JF {δ:Dk}{n:Nat}: (δ.dB n).2.waiting=δ.waiting∧(δ.dB n).2.now=δ.now∧(δ.dB n).2.aq=δ.aq:=by
 unfold Dk.dB Dk.qD
 split
 ·split
  ·exact ⟨rfl,rfl,rfl⟩
  ·split
   ·exact ⟨rfl,rfl,rfl⟩
   ·split <;> exact ⟨rfl,rfl,rfl⟩
 ·exact ⟨rfl,rfl,rfl⟩
theorem JG {δ:Dk}: δ.cE.2.waiting=δ.waiting∧δ.cE.2.now=δ.now∧δ.cE.2.aq=δ.aq:=by
 unfold Dk.cE
 split
 ·exact ⟨rfl,rfl,rfl⟩
 ·split <;> exact ⟨rfl,rfl,rfl⟩
theorem Dp {δ:Dk}{n:Nat}: (δ.cA n).2.waiting=δ.waiting∧(δ.cA n).2.now=δ.now∧(δ.cA n).2.aq=δ.aq:=by
 unfold Dk.cA
 have h:=JF (δ:=δ) (n:=n)
 split
 ·exact h
 ·split
  ·have I:=JG (δ:=(δ.dB n).2)
   exact ⟨I.1.trans h.1,I.2.1.trans h.2.1,I.2.2.trans h.2.2⟩
  ·exact h
theorem oT.cA {δ:Dk}{m n:Nat}(h:oT δ m): oT (δ.cA n).2 m:=by
 obtain ⟨I,J,U⟩:=Dp (δ:=δ) (n:=n)
 exact ⟨h.ok.cA,by rw [I]; exact h.wait,by rw [J,U]; exact h.now⟩
section
variable {told:dH} {h:H} {S:List ax} {data j:List Nat} {p base aC:Nat} {δ:Dk}
noncomputable def soE : Code:=cK [1,1,1,1,1,1,1,1,1] ((Tryz.f21.body).getD .skip)
theorem FD (hT:W4 told){a q r n:Nat}{rs dm fQ:List bW}(he:rs=dm++fQ)(J:∀r∈rs,r.Ok)(U:(iG base aC rs).Ok)(tj:oT δ 65536){c0:Nat}
 (s:Sat h (cu a p q r .cF data c0::b8 r p q (Pl.fresh n)::bf q p (iG base aC rs)::aD p δ::S)){E:List (Nat×V)}{Q:Ex→List (Nat×V)→H→Prop}(hE:Has E [(9,.ptr a 0),(10,.int .u64 ((base+szB dm:Nat):Int))])
 {y:Int×Dk}(hy:mh (redoL (base+szB dm) fQ gh.none) δ=y)
 (h1:∀E' h',y.1≠0→look E' 4=some .cF→look E' 5=some (.int .i64 y.1)→Sat h' (aD p y.2::S)→Q .ret E' h')
 (h2:∀E' h',y.1=0→look E' 4=some (.ptr a 0)→look E' 5=some (.int .i64 0)→Sat h' (cu a p q r .cF data c0::b8 r p q (Pl.fresh n)::bf q p (iG base aC rs)::aD p y.2::S)→Q .ret E' h'): WP ⟨Tryz.prog,told⟩ 95 soE E h Q:=by
 refine WP.has hE (zK 5 rfl (zc rfl (Rj hT he J U tj (s.ae [0,1,1])) ?_))
 rintro v h ⟨rfl,s⟩
 rw [hy] at s
 rw [hy]
 by_cases I:y.1=0
 ·skip
  rw [I]
  exact zk 5 rfl (zh rfl (ah rfl rfl aX) (rfl) (zk 9 rfl (WP.ret (h2 _ _ I rfl rfl (s.ae [0,2,0,0])))))
 ·skip
  refine zk 5 rfl (zt rfl (ah rfl rfl aX) (by simpa using I) ?_)
  exact zk 8 rfl (WP.ret (h1 _ _ I rfl rfl (((s.ae [2]).del 1 |>.del 1).del 1)))
theorem aaR {P:Program}{h:H}{J:Array TypeId}{k:IntKind}{a b:Int}: builtinV P h .max J [.int k a,.int k b]=some (.int k (max a b),h):=by
 simp only [builtinV,foldV,maxV,dD,ag,je]
 by_cases I:a<b
 ·simp only [I,Aq,ag]
  rw [show max a b=b by omega]
 ·simp only [I,qV,az]
  rw [show max a b=a by omega]
theorem Rk (hT:W4 told){n:Nat}{rs dm fQ:List bW}(Bk:1≤n)(Fz:n≤1024)(s:Sat h (aD p δ::S))(U:oT δ 65536)(hd:δ.dead=false)(hm:OY δ.mark base aC)(rS:base+δ.log.length≤1099511627776)(Mg:aC≤1099511627776)
 (zP:δ.log=logB base rs++j)(J:∀r∈rs,r.Ok)(hj:rF j)(wF:BX base aC rs data dm fQ):
  Call ⟨Tryz.prog,told⟩ 21 [.ptr p 0,.int .i64 (n:Int)] h fun v h' =>
   ((eP δ base rs dm fQ).1≠0∧v=.bD [.cF,.int .i64 (eP δ base rs dm fQ).1]∧Sat h' (aD p (eP δ base rs dm fQ).2::S)) ∨
   ((eP δ base rs dm fQ).1=0∧∃a q r,v=.bD [.ptr a 0,.int .i64 0]∧Sat h' (cu a p q r .cF data aC::b8 r p q (Pl.fresh n)::bf q p (iG base aC rs)::aD p (eP δ base rs dm fQ).2::S)):=by
 have hW:=hT.w.w.w
 have hlen:=U.ok.len
 have lI:δ.log.length=szB rs+j.length:=by rw [zP,bA,fO]
 have Es:(iG base aC rs).Ok:=KK (by omega) (by omega) Mg
 obtain ⟨WV,wF⟩:=wF
 generalize hy:eP δ base rs dm fQ=y
 unfold eP at hy
 refine Call.of_wp (hW.free _ rfl) Tryz.func21 rfl rfl (zK 9 rfl (zh rfl (ah rfl rfl bu) (by simp <;> omega) ?_))
 refine zk 2 rfl (zh rfl (ah rfl rfl dR) (by simp <;> omega) ?_)
 refine zk 7 rfl (zc rfl (Re hT.wr s U.ok hd hm rS (by omega) zP J hj) ?_)
 rw [fO]
 rintro v h (⟨I,rfl,s⟩ | ⟨I,q,rfl,s⟩)
 ·skip
  rw [aj I] at hy
  rw [hy] at I s
  rw [hy]
  refine zk 10 rfl (zt rfl (ah rfl rfl aX) (by simpa using I) ?_)
  exact zk 8 rfl (WP.ret ⟨aa,_,rfl,.inl ⟨I,rfl,s⟩⟩)
 rw [af (not_not_intro I)] at hy
 refine zk 10 rfl (zh rfl (ah rfl rfl aX) (rfl) (zk 8 rfl (zc rfl (Kn (p:=p) (q:=q) (n:=n) hW s) ?_)))
 rintro v h (⟨hn,_,_⟩ | ⟨_,_,r,rfl,s⟩)
 ·omega
 rw [cP] at s
 refine zk 10 rfl (zh rfl (ah rfl rfl aX) (rfl) (zk 8 rfl (zo rfl (c7 rfl (by rw [VK]; rfl)) ?_)))
 refine aB.cQ s rfl rfl rfl (gC rfl rfl) (fun p44 h s => ?_)
 refine zk 5 rfl (zc rfl (vf hW (s.ae [2])) ?_)
 rintro v h' ⟨rfl,rfl⟩
 refine zk 6 rfl (zc rfl (Bf hW (s.ae [2])) ?_)
 rintro v h' ⟨rfl,rfl⟩
 rcases wF with ⟨rfl,rfl,rfl⟩ | ⟨A,rc,B,hA,hcA,SM,OT,h8,rfl,fW⟩
 ·skip
  refine zk 5 rfl (zh rfl (ah rfl rfl aX) (rfl) (zk 3 rfl ?_))
  have s1:=bM.2 ⟨.bz,(s.rR).ae [1,0]⟩
  exact FD hT WV J Es U.cA s1 ⟨rfl,rfl,aa⟩ hy (fun E' h' I e1 e2 s'=>⟨aa,_,vC e1 e2,.inl ⟨I,rfl,s'⟩⟩) (fun E' h' I e1 e2 s'=>⟨aa,_,vC e1 e2,.inr ⟨I,_,_,_,rfl,s'⟩⟩)
 ·skip
  subst hA
  subst hcA
  have gn:¬(((iG base (base+szB A) (A++rc::B)).check:Nat):Int)=0:=by show ¬((base+szB A:Nat):Int)=0; omega
  refine zk 5 rfl (zt rfl (ah rfl rfl aX) (by simpa using gn) ?_)
  refine zk 6 rfl (zc rfl (Io (dm:=A) (fQ:=B) (r:=rc) hT.wr Es (J rc (by simp)) (s.ae [2])) ?_)
  rintro v h ⟨dt,ch,cs,rfl,s⟩
  have iY:=(s.buf (k:=1) rfl).view.cells
  have jZ:=s.kJ (j:=2) rfl
  have aaS:[V.int .i64 (rc.kd:Int),V.int .u64 (rc.tx:Int),V.int .u64 (rc.pv:Int),V.int .u64 (rc.nx:Int),dt,ch].all storable=true:=mS iY.2 jZ.2.1
  refine zk 4 rfl ?_
  refine aB.cQ s rfl rfl rfl (cC ru) (fun Sw h s => ?_)
  refine zS rfl (s.g9 (j:=0) rfl gE rfl aaS) ?_
  rintro h s
  refine zk 6 rfl (zt rfl (ah rfl rfl cI) (rfl) (zm rfl (zf rfl (ux _ _) (zl rfl (s.ld (k:=0) rfl dr rfl) (zt rfl (ah rfl rfl cI) (by rw [OT]; rfl) ?_)))))
  refine zk 2 rfl (zf rfl (yL _ _) (zl rfl (s.ld (k:=0) rfl bL rfl) (zo rfl (a_ rfl rfl rfl (bg aS (s.aG (k:=2) rfl (bE _ _)))) (zt rfl (ah rfl rfl nq) (by simp; omega) ?_))))
  refine zk 7 rfl (zf rfl (yL _ _) (zl rfl (s.ld (k:=0) rfl bL rfl) (zo rfl (cD (p:=some (.int .i64 8)) (q:=none) (m:=none) (p':=some 8) (q':=none) (m':=none) rfl rfl rfl rfl rfl rfl rfl (er (s.buf (k:=2) rfl).view (a:=8) h8).1) (zc rfl (j6 hW (s.ae [2]) (nT (bE _ _) (a:=8) h8) (by have:=(J rc (by simp)).rd.data; simp; omega)) ?_))))
  intro u h s
  have s:=s.fJ
  dsimp only [V.cells,List.length_cons,List.length_nil,Nat.reduceAdd,List.take,List.drop,List.cons_append,List.nil_append,aT,bringA,setA] at s
  have hu:=(s.aG (k:=0) rfl (cJ _ _)).cells
  refine zk 2 rfl (zf rfl (GZ _ _) (zS rfl (s.dQ (k:=6) rfl jl rfl (by decide) hu.1 hu.2) ?_))
  intro h s
  refine zn rfl (zf rfl (CI _ _) ?_)
  refine zS rfl (by exact s.dQ (k:=6) rfl rq rfl (by decide) rfl rfl) (fun h s => ?_)
  refine zk 3 rfl (zf rfl (yL _ _) (zl rfl (s.ld (k:=2) rfl bL rfl) (zo rfl (cD (p:=none) (q:=some (.int .i64 8)) (m:=none) (p':=none) (q':=some 8) (m':=none) rfl rfl rfl rfl rfl rfl rfl (ik (s.buf (k:=1) rfl).view (b:=8) h8).1) (zc rfl (pS hW s (k:=1) rfl (w9 (bE _ _) (b:=8) h8) (by rw [dI]; omega)) ?_))))
  rintro v h' ⟨rfl,rfl⟩
  refine zo rfl (Qa (r:=.int .u64 ((base+szB dm:Nat):Int)) rfl rfl (aaR.trans (by rw [show max (((iG base (base+szB A) (A++rc::B)).base:Nat):Int) ((leN (rc.data.take 8):Nat):Int)=((base+szB dm:Nat):Int) by rw [←fW]; show max (base:Int) _=_; omega]))) ?_
  refine zk 2 rfl ?_
  have s:=(bM.2 ⟨u,(s.ae [6,0])⟩).ae [0,5,2,4]
  have s:=(((s.del 4).del 4).del 4).del 4
  exact FD hT WV J Es U.cA s ⟨rfl,rfl,aa⟩ hy (fun E' h' I e1 e2 s'=>⟨aa,_,vC e1 e2,.inl ⟨I,rfl,s'⟩⟩) (fun E' h' I e1 e2 s'=>⟨aa,_,vC e1 e2,.inr ⟨I,_,_,_,rfl,s'⟩⟩)
end
end Go.Proofs.YtconhghphklfjaaGreat.Am
