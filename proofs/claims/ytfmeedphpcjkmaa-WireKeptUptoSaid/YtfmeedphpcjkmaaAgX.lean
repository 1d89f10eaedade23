/- What simp goes by, in one set. -/
import Derived.Test.YtfmeedphpcjkmaaAgW
import Derived.Lib.Strings
set_option linter.unusedVariables false
namespace Go.Proofs.Ytfmeedphpcjkmaa.Ag
section
variable (E : Env) (rest : St → Prop) (s : St) (d : Option Nat)
theorem vcI_mov : ∀ x, vcI E rest s d (AOp.mov x) = vcT rest s d (aop s.ρ s.σ (AOp.mov x)) := fun _ => rfl
theorem vcIg_mov : ∀ x, vcIg E rest s d (AOp.mov x) = vcT rest s d (aop (opnR s.ρ (opds (AOp.mov x))) s.σ (AOp.mov x)) := fun _ => rfl
theorem vcFree_mov : ∀ x, vcFree E rest s d (AOp.mov x) = vcFr rest s d (aop s.ρ [] (AOp.mov x)) := fun _ => rfl
theorem vcBd_mov : ∀ x, vcBd E rest s d (AOp.mov x) = vcT rest s d (aop s.ρ s.σ (AOp.mov x)) := fun _ => rfl
theorem vcI_pick : ∀ c x y, vcI E rest s d (AOp.pick c x y) = vcT rest s d (aop s.ρ s.σ (AOp.pick c x y)) := fun _ _ _ => rfl
theorem vcIg_pick : ∀ c x y, vcIg E rest s d (AOp.pick c x y) = vcT rest s d (aop (opnR s.ρ (opds (AOp.pick c x y))) s.σ (AOp.pick c x y)) := fun _ _ _ => rfl
theorem vcFree_pick : ∀ c x y, vcFree E rest s d (AOp.pick c x y) = vcFr rest s d (aop s.ρ [] (AOp.pick c x y)) := fun _ _ _ => rfl
theorem vcBd_pick : ∀ c x y, vcBd E rest s d (AOp.pick c x y) = vcT rest s d (aop s.ρ s.σ (AOp.pick c x y)) := fun _ _ _ => rfl
theorem vcI_pickb : ∀ c x y, vcI E rest s d (AOp.pickb c x y) = vcT rest s d (aop s.ρ s.σ (AOp.pickb c x y)) := fun _ _ _ => rfl
theorem vcIg_pickb : ∀ c x y, vcIg E rest s d (AOp.pickb c x y) = vcT rest s d (aop (opnR s.ρ (opds (AOp.pickb c x y))) s.σ (AOp.pickb c x y)) := fun _ _ _ => rfl
theorem vcFree_pickb : ∀ c x y, vcFree E rest s d (AOp.pickb c x y) = vcFr rest s d (aop s.ρ [] (AOp.pickb c x y)) := fun _ _ _ => rfl
theorem vcBd_pickb : ∀ c x y, vcBd E rest s d (AOp.pickb c x y) = vcT rest s d (aop s.ρ s.σ (AOp.pickb c x y)) := fun _ _ _ => rfl
theorem vcI_bin : ∀ tb op x y, vcI E rest s d (AOp.bin tb op x y) = vcT rest s d (aop s.ρ s.σ (AOp.bin tb op x y)) := fun _ _ _ _ => rfl
theorem vcIg_bin : ∀ tb op x y, vcIg E rest s d (AOp.bin tb op x y) = vcT rest s d (aop (opnR s.ρ (opds (AOp.bin tb op x y))) s.σ (AOp.bin tb op x y)) := fun _ _ _ _ => rfl
theorem vcFree_bin : ∀ tb op x y, vcFree E rest s d (AOp.bin tb op x y) = vcFr rest s d (aop s.ρ [] (AOp.bin tb op x y)) := fun _ _ _ _ => rfl
theorem vcBd_bin : ∀ tb op x y, vcBd E rest s d (AOp.bin tb op x y) = vcT rest s d (aop s.ρ s.σ (AOp.bin tb op x y)) := fun _ _ _ _ => rfl
theorem vcI_un : ∀ op x, vcI E rest s d (AOp.un op x) = vcT rest s d (aop s.ρ s.σ (AOp.un op x)) := fun _ _ => rfl
theorem vcIg_un : ∀ op x, vcIg E rest s d (AOp.un op x) = vcT rest s d (aop (opnR s.ρ (opds (AOp.un op x))) s.σ (AOp.un op x)) := fun _ _ => rfl
theorem vcFree_un : ∀ op x, vcFree E rest s d (AOp.un op x) = vcFr rest s d (aop s.ρ [] (AOp.un op x)) := fun _ _ => rfl
theorem vcBd_un : ∀ op x, vcBd E rest s d (AOp.un op x) = vcT rest s d (aop s.ρ s.σ (AOp.un op x)) := fun _ _ => rfl
theorem vcI_conv : ∀ k x, vcI E rest s d (AOp.conv k x) = vcT rest s d (aop s.ρ s.σ (AOp.conv k x)) := fun _ _ => rfl
theorem vcIg_conv : ∀ k x, vcIg E rest s d (AOp.conv k x) = vcT rest s d (aop (opnR s.ρ (opds (AOp.conv k x))) s.σ (AOp.conv k x)) := fun _ _ => rfl
theorem vcFree_conv : ∀ k x, vcFree E rest s d (AOp.conv k x) = vcFr rest s d (aop s.ρ [] (AOp.conv k x)) := fun _ _ => rfl
theorem vcBd_conv : ∀ k x, vcBd E rest s d (AOp.conv k x) = vcT rest s d (aop s.ρ s.σ (AOp.conv k x)) := fun _ _ => rfl
theorem vcI_ext : ∀ i x, vcI E rest s d (AOp.ext i x) = vcT rest s d (aop s.ρ s.σ (AOp.ext i x)) := fun _ _ => rfl
theorem vcIg_ext : ∀ i x, vcIg E rest s d (AOp.ext i x) = vcT rest s d (aop (opnR s.ρ (opds (AOp.ext i x))) s.σ (AOp.ext i x)) := fun _ _ => rfl
theorem vcFree_ext : ∀ i x, vcFree E rest s d (AOp.ext i x) = vcFr rest s d (aop s.ρ [] (AOp.ext i x)) := fun _ _ => rfl
theorem vcBd_ext : ∀ i x, vcBd E rest s d (AOp.ext i x) = vcT rest s d (aop s.ρ s.σ (AOp.ext i x)) := fun _ _ => rfl
theorem vcI_len : ∀ b x, vcI E rest s d (AOp.len b x) = vcT rest s d (aop s.ρ s.σ (AOp.len b x)) := fun _ _ => rfl
theorem vcIg_len : ∀ b x, vcIg E rest s d (AOp.len b x) = vcT rest s d (aop (opnR s.ρ (opds (AOp.len b x))) s.σ (AOp.len b x)) := fun _ _ => rfl
theorem vcFree_len : ∀ b x, vcFree E rest s d (AOp.len b x) = vcFr rest s d (aop s.ρ [] (AOp.len b x)) := fun _ _ => rfl
theorem vcBd_len : ∀ b x, vcBd E rest s d (AOp.len b x) = vcT rest s d (aop s.ρ s.σ (AOp.len b x)) := fun _ _ => rfl
theorem vcI_fldA : ∀ o z a x, vcI E rest s d (AOp.fldA o z a x) = vcT rest s d (aop s.ρ s.σ (AOp.fldA o z a x)) := fun _ _ _ _ => rfl
theorem vcIg_fldA : ∀ o z a x, vcIg E rest s d (AOp.fldA o z a x) = vcT rest s d (aop (opnR s.ρ (opds (AOp.fldA o z a x))) s.σ (AOp.fldA o z a x)) := fun _ _ _ _ => rfl
theorem vcFree_fldA : ∀ o z a x, vcFree E rest s d (AOp.fldA o z a x) = vcFr rest s d (aop s.ρ [] (AOp.fldA o z a x)) := fun _ _ _ _ => rfl
theorem vcBd_fldA : ∀ o z a x, vcBd E rest s d (AOp.fldA o z a x) = vcT rest s d (aop s.ρ s.σ (AOp.fldA o z a x)) := fun _ _ _ _ => rfl
theorem vcI_fld : ∀ o z a x, vcI E rest s d (AOp.fld o z a x) = vcT rest s d (aop s.ρ s.σ (AOp.fld o z a x)) := fun _ _ _ _ => rfl
theorem vcIg_fld : ∀ o z a x, vcIg E rest s d (AOp.fld o z a x) = vcT rest s d (aop (opnR s.ρ (opds (AOp.fld o z a x))) s.σ (AOp.fld o z a x)) := fun _ _ _ _ => rfl
theorem vcFree_fld : ∀ o z a x, vcFree E rest s d (AOp.fld o z a x) = vcFr rest s d (aop s.ρ [] (AOp.fld o z a x)) := fun _ _ _ _ => rfl
theorem vcBd_fld : ∀ o z a x, vcBd E rest s d (AOp.fld o z a x) = vcT rest s d (aop s.ρ s.σ (AOp.fld o z a x)) := fun _ _ _ _ => rfl
theorem vcI_load : ∀ z a x, vcI E rest s d (AOp.load z a x) = vcT rest s d (aop s.ρ s.σ (AOp.load z a x)) := fun _ _ _ => rfl
theorem vcIg_load : ∀ z a x, vcIg E rest s d (AOp.load z a x) = vcT rest s d (aop (opnR s.ρ (opds (AOp.load z a x))) s.σ (AOp.load z a x)) := fun _ _ _ => rfl
theorem vcFree_load : ∀ z a x, vcFree E rest s d (AOp.load z a x) = vcFr rest s d (aop s.ρ [] (AOp.load z a x)) := fun _ _ _ => rfl
theorem vcBd_load : ∀ z a x, vcBd E rest s d (AOp.load z a x) = vcT rest s d (aop s.ρ s.σ (AOp.load z a x)) := fun _ _ _ => rfl
theorem vcI_store : ∀ z x y, vcI E rest s d (AOp.store z x y) = vcT rest s d (aop s.ρ s.σ (AOp.store z x y)) := fun _ _ _ => rfl
theorem vcIg_store : ∀ z x y, vcIg E rest s d (AOp.store z x y) = vcT rest s d (aop (opnR s.ρ (opds (AOp.store z x y))) s.σ (AOp.store z x y)) := fun _ _ _ => rfl
theorem vcFree_store : ∀ z x y, vcFree E rest s d (AOp.store z x y) = vcFr rest s d (aop s.ρ [] (AOp.store z x y)) := fun _ _ _ => rfl
theorem vcBd_store : ∀ z x y, vcBd E rest s d (AOp.store z x y) = vcT rest s d (aop s.ρ s.σ (AOp.store z x y)) := fun _ _ _ => rfl
theorem vcI_boxI : ∀ x, vcI E rest s d (AOp.boxI x) = vcT rest s d (aop s.ρ s.σ (AOp.boxI x)) := fun _ => rfl
theorem vcIg_boxI : ∀ x, vcIg E rest s d (AOp.boxI x) = vcT rest s d (aop (opnR s.ρ (opds (AOp.boxI x))) s.σ (AOp.boxI x)) := fun _ => rfl
theorem vcFree_boxI : ∀ x, vcFree E rest s d (AOp.boxI x) = vcFr rest s d (aop s.ρ [] (AOp.boxI x)) := fun _ => rfl
theorem vcBd_boxI : ∀ x, vcBd E rest s d (AOp.boxI x) = vcT rest s d (aop s.ρ s.σ (AOp.boxI x)) := fun _ => rfl
theorem vcI_box : ∀ k x, vcI E rest s d (AOp.box k x) = vcT rest s d (aop s.ρ s.σ (AOp.box k x)) := fun _ _ => rfl
theorem vcIg_box : ∀ k x, vcIg E rest s d (AOp.box k x) = vcT rest s d (aop (opnR s.ρ (opds (AOp.box k x))) s.σ (AOp.box k x)) := fun _ _ => rfl
theorem vcFree_box : ∀ k x, vcFree E rest s d (AOp.box k x) = vcFr rest s d (aop s.ρ [] (AOp.box k x)) := fun _ _ => rfl
theorem vcBd_box : ∀ k x, vcBd E rest s d (AOp.box k x) = vcT rest s d (aop s.ρ s.σ (AOp.box k x)) := fun _ _ => rfl
theorem vcI_alloc : ∀ k zs, vcI E rest s d (AOp.alloc k zs) = vcT rest s d (aop s.ρ s.σ (AOp.alloc k zs)) := fun _ _ => rfl
theorem vcIg_alloc : ∀ k zs, vcIg E rest s d (AOp.alloc k zs) = vcT rest s d (aop (opnR s.ρ (opds (AOp.alloc k zs))) s.σ (AOp.alloc k zs)) := fun _ _ => rfl
theorem vcFree_alloc : ∀ k zs, vcFree E rest s d (AOp.alloc k zs) = vcFr rest s d (aop s.ρ [] (AOp.alloc k zs)) := fun _ _ => rfl
theorem vcBd_alloc : ∀ k zs, vcBd E rest s d (AOp.alloc k zs) = vcT rest s d (aop s.ρ s.σ (AOp.alloc k zs)) := fun _ _ => rfl
theorem vcI_build : ∀ zs ps, vcI E rest s d (AOp.build zs ps) = vcT rest s d (aop s.ρ s.σ (AOp.build zs ps)) := fun _ _ => rfl
theorem vcIg_build : ∀ zs ps, vcIg E rest s d (AOp.build zs ps) = vcT rest s d (aop (opnR s.ρ (opds (AOp.build zs ps))) s.σ (AOp.build zs ps)) := fun _ _ => rfl
theorem vcFree_build : ∀ zs ps, vcFree E rest s d (AOp.build zs ps) = vcFr rest s d (aop s.ρ [] (AOp.build zs ps)) := fun _ _ => rfl
theorem vcBd_build : ∀ zs ps, vcBd E rest s d (AOp.build zs ps) = vcT rest s d (aop s.ρ s.σ (AOp.build zs ps)) := fun _ _ => rfl
theorem vcI_bslice : ∀ z xs, vcI E rest s d (AOp.bslice z xs) = vcT rest s d (aop s.ρ s.σ (AOp.bslice z xs)) := fun _ _ => rfl
theorem vcIg_bslice : ∀ z xs, vcIg E rest s d (AOp.bslice z xs) = vcT rest s d (aop (opnR s.ρ (opds (AOp.bslice z xs))) s.σ (AOp.bslice z xs)) := fun _ _ => rfl
theorem vcFree_bslice : ∀ z xs, vcFree E rest s d (AOp.bslice z xs) = vcFr rest s d (aop s.ρ [] (AOp.bslice z xs)) := fun _ _ => rfl
theorem vcBd_bslice : ∀ z xs, vcBd E rest s d (AOp.bslice z xs) = vcT rest s d (aop s.ρ s.σ (AOp.bslice z xs)) := fun _ _ => rfl
theorem vcI_app : ∀ k e z b x y, vcI E rest s d (AOp.app k e z b x y) = vcAp rest s d k e z b x y E.ask (ev s.ρ x) := fun _ _ _ _ _ _ => rfl
theorem vcAp_f (k e z b : Nat) (x y : AOpd) (v : Option TV) : vcAp rest s d k e z b x y false v = vcT rest s d (aop s.ρ s.σ (AOp.app k e z b x y)) := rfl
theorem vcAp_nil (k e z b : Nat) (x y : AOpd) : vcAp rest s d k e z b x y true (some (.iv .nil)) = vcApT rest s d e z b x y := rfl
theorem vcAp_lst (k e z b : Nat) (x y : AOpd) (k' n' : Nat) : vcAp rest s d k e z b x y true (some (.lst k' n')) = vcT rest s d (aop s.ρ s.σ (AOp.app k e z b x y)) := rfl
theorem vcIg_app : ∀ k e z b x y, vcIg E rest s d (AOp.app k e z b x y) = vcT rest s d (aop (opnR s.ρ (opds (AOp.app k e z b x y))) s.σ (AOp.app k e z b x y)) := fun _ _ _ _ _ _ => rfl
theorem vcFree_app : ∀ k e z b x y, vcFree E rest s d (AOp.app k e z b x y) = vcFr rest s d (aop s.ρ [] (AOp.app k e z b x y)) := fun _ _ _ _ _ _ => rfl
theorem vcBd_app : ∀ k e z b x y, vcBd E rest s d (AOp.app k e z b x y) = vcT rest s d (aop s.ρ s.σ (AOp.app k e z b x y)) := fun _ _ _ _ _ _ => rfl
theorem vcI_b2s : ∀ x, vcI E rest s d (AOp.b2s x) = vcT rest s d (aop s.ρ s.σ (AOp.b2s x)) := fun _ => rfl
theorem vcIg_b2s : ∀ x, vcIg E rest s d (AOp.b2s x) = vcT rest s d (aop (opnR s.ρ (opds (AOp.b2s x))) s.σ (AOp.b2s x)) := fun _ => rfl
theorem vcFree_b2s : ∀ x, vcFree E rest s d (AOp.b2s x) = vcFr rest s d (aop s.ρ [] (AOp.b2s x)) := fun _ => rfl
theorem vcBd_b2s : ∀ x, vcBd E rest s d (AOp.b2s x) = vcT rest s d (aop s.ρ s.σ (AOp.b2s x)) := fun _ => rfl
theorem vcI_mks : ∀ k e z b v x c, vcI E rest s d (AOp.mks k e z b v x c) = vcAsk rest s d k e z b v x c E.ask := fun _ _ _ _ _ _ _ => rfl
theorem vcIg_mks : ∀ k e z b v x c, vcIg E rest s d (AOp.mks k e z b v x c) = vcT rest s d (aop (opnR s.ρ (opds (AOp.mks k e z b v x c))) s.σ (AOp.mks k e z b v x c)) := fun _ _ _ _ _ _ _ => rfl
theorem vcFree_mks : ∀ k e z b v x c, vcFree E rest s d (AOp.mks k e z b v x c) = vcFr rest s d (aop s.ρ [] (AOp.mks k e z b v x c)) := fun _ _ _ _ _ _ _ => rfl
theorem vcBd_mks : ∀ k e z b v x c, vcBd E rest s d (AOp.mks k e z b v x c) = vcT rest s d (aop s.ρ s.σ (AOp.mks k e z b v x c)) := fun _ _ _ _ _ _ _ => rfl
theorem vcI_blist : ∀ k e z, vcI E rest s d (AOp.blist k e z) = vcT rest s d (aop s.ρ s.σ (AOp.blist k e z)) := fun _ _ _ => rfl
theorem vcIg_blist : ∀ k e z, vcIg E rest s d (AOp.blist k e z) = vcT rest s d (aop (opnR s.ρ (opds (AOp.blist k e z))) s.σ (AOp.blist k e z)) := fun _ _ _ => rfl
theorem vcFree_blist : ∀ k e z, vcFree E rest s d (AOp.blist k e z) = vcFr rest s d (aop s.ρ [] (AOp.blist k e z)) := fun _ _ _ => rfl
theorem vcBd_blist : ∀ k e z, vcBd E rest s d (AOp.blist k e z) = vcT rest s d (aop s.ρ s.σ (AOp.blist k e z)) := fun _ _ _ => rfl
theorem vcI_mm : ∀ m x y, vcI E rest s d (AOp.mm m x y) = vcT rest s d (aop s.ρ s.σ (AOp.mm m x y)) := fun _ _ _ => rfl
theorem vcIg_mm : ∀ m x y, vcIg E rest s d (AOp.mm m x y) = vcT rest s d (aop (opnR s.ρ (opds (AOp.mm m x y))) s.σ (AOp.mm m x y)) := fun _ _ _ => rfl
theorem vcFree_mm : ∀ m x y, vcFree E rest s d (AOp.mm m x y) = vcFr rest s d (aop s.ρ [] (AOp.mm m x y)) := fun _ _ _ => rfl
theorem vcBd_mm : ∀ m x y, vcBd E rest s d (AOp.mm m x y) = vcT rest s d (aop s.ρ s.σ (AOp.mm m x y)) := fun _ _ _ => rfl
theorem vcI_nilck : ∀ x, vcI E rest s d (AOp.nilck x) = vcT rest s d (aop s.ρ s.σ (AOp.nilck x)) := fun _ => rfl
theorem vcIg_nilck : ∀ x, vcIg E rest s d (AOp.nilck x) = vcT rest s d (aop (opnR s.ρ (opds (AOp.nilck x))) s.σ (AOp.nilck x)) := fun _ => rfl
theorem vcFree_nilck : ∀ x, vcFree E rest s d (AOp.nilck x) = vcFr rest s d (aop s.ρ [] (AOp.nilck x)) := fun _ => rfl
theorem vcBd_nilck : ∀ x, vcBd E rest s d (AOp.nilck x) = vcT rest s d (aop s.ρ s.σ (AOp.nilck x)) := fun _ => rfl
theorem vcI_look : ∀ kd z ok x y, vcI E rest s d (AOp.look kd z ok x y) = vcT rest s d (aop s.ρ s.σ (AOp.look kd z ok x y)) := fun _ _ _ _ _ => rfl
theorem vcIg_look : ∀ kd z ok x y, vcIg E rest s d (AOp.look kd z ok x y) = vcT rest s d (aop (opnR s.ρ (opds (AOp.look kd z ok x y))) s.σ (AOp.look kd z ok x y)) := fun _ _ _ _ _ => rfl
theorem vcFree_look : ∀ kd z ok x y, vcFree E rest s d (AOp.look kd z ok x y) = vcFr rest s d (aop s.ρ [] (AOp.look kd z ok x y)) := fun _ _ _ _ _ => rfl
theorem vcBd_look : ∀ kd z ok x y, vcBd E rest s d (AOp.look kd z ok x y) = vcT rest s d (aop s.ρ s.σ (AOp.look kd z ok x y)) := fun _ _ _ _ _ => rfl
theorem vcI_mapset : ∀ kd x y z, vcI E rest s d (AOp.mapset kd x y z) = vcT rest s d (aop s.ρ s.σ (AOp.mapset kd x y z)) := fun _ _ _ _ => rfl
theorem vcIg_mapset : ∀ kd x y z, vcIg E rest s d (AOp.mapset kd x y z) = vcT rest s d (aop (opnR s.ρ (opds (AOp.mapset kd x y z))) s.σ (AOp.mapset kd x y z)) := fun _ _ _ _ => rfl
theorem vcFree_mapset : ∀ kd x y z, vcFree E rest s d (AOp.mapset kd x y z) = vcFr rest s d (aop s.ρ [] (AOp.mapset kd x y z)) := fun _ _ _ _ => rfl
theorem vcBd_mapset : ∀ kd x y z, vcBd E rest s d (AOp.mapset kd x y z) = vcT rest s d (aop s.ρ s.σ (AOp.mapset kd x y z)) := fun _ _ _ _ => rfl
theorem vcI_mkmap : ∀ k kd, vcI E rest s d (AOp.mkmap k kd) = vcT rest s d (aop s.ρ s.σ (AOp.mkmap k kd)) := fun _ _ => rfl
theorem vcIg_mkmap : ∀ k kd, vcIg E rest s d (AOp.mkmap k kd) = vcT rest s d (aop (opnR s.ρ (opds (AOp.mkmap k kd))) s.σ (AOp.mkmap k kd)) := fun _ _ => rfl
theorem vcFree_mkmap : ∀ k kd, vcFree E rest s d (AOp.mkmap k kd) = vcFr rest s d (aop s.ρ [] (AOp.mkmap k kd)) := fun _ _ => rfl
theorem vcBd_mkmap : ∀ k kd, vcBd E rest s d (AOp.mkmap k kd) = vcT rest s d (aop s.ρ s.σ (AOp.mkmap k kd)) := fun _ _ => rfl
theorem vcI_lenm : ∀ x, vcI E rest s d (AOp.lenm x) = vcT rest s d (aop s.ρ s.σ (AOp.lenm x)) := fun _ => rfl
theorem vcIg_lenm : ∀ x, vcIg E rest s d (AOp.lenm x) = vcT rest s d (aop (opnR s.ρ (opds (AOp.lenm x))) s.σ (AOp.lenm x)) := fun _ => rfl
theorem vcFree_lenm : ∀ x, vcFree E rest s d (AOp.lenm x) = vcFr rest s d (aop s.ρ [] (AOp.lenm x)) := fun _ => rfl
theorem vcBd_lenm : ∀ x, vcBd E rest s d (AOp.lenm x) = vcT rest s d (aop s.ρ s.σ (AOp.lenm x)) := fun _ => rfl
theorem vcI_mkfn : ∀ f fs cs, vcI E rest s d (AOp.mkfn f fs cs) = vcT rest s d (aop s.ρ s.σ (AOp.mkfn f fs cs)) := fun _ _ _ => rfl
theorem vcIg_mkfn : ∀ f fs cs, vcIg E rest s d (AOp.mkfn f fs cs) = vcT rest s d (aop (opnR s.ρ (opds (AOp.mkfn f fs cs))) s.σ (AOp.mkfn f fs cs)) := fun _ _ _ => rfl
theorem vcFree_mkfn : ∀ f fs cs, vcFree E rest s d (AOp.mkfn f fs cs) = vcFr rest s d (aop s.ρ [] (AOp.mkfn f fs cs)) := fun _ _ _ => rfl
theorem vcBd_mkfn : ∀ f fs cs, vcBd E rest s d (AOp.mkfn f fs cs) = vcT rest s d (aop s.ρ s.σ (AOp.mkfn f fs cs)) := fun _ _ _ => rfl
theorem vcI_arrV : ∀ l z a x y, vcI E rest s d (AOp.arrV l z a x y) = vcT rest s d (aop s.ρ s.σ (AOp.arrV l z a x y)) := fun _ _ _ _ _ => rfl
theorem vcIg_arrV : ∀ l z a x y, vcIg E rest s d (AOp.arrV l z a x y) = vcT rest s d (aop (opnR s.ρ (opds (AOp.arrV l z a x y))) s.σ (AOp.arrV l z a x y)) := fun _ _ _ _ _ => rfl
theorem vcFree_arrV : ∀ l z a x y, vcFree E rest s d (AOp.arrV l z a x y) = vcFr rest s d (aop s.ρ [] (AOp.arrV l z a x y)) := fun _ _ _ _ _ => rfl
theorem vcBd_arrV : ∀ l z a x y, vcBd E rest s d (AOp.arrV l z a x y) = vcT rest s d (aop s.ρ s.σ (AOp.arrV l z a x y)) := fun _ _ _ _ _ => rfl
theorem vcI_arrA : ∀ l z x y, vcI E rest s d (AOp.arrA l z x y) = vcT rest s d (aop s.ρ s.σ (AOp.arrA l z x y)) := fun _ _ _ _ => rfl
theorem vcIg_arrA : ∀ l z x y, vcIg E rest s d (AOp.arrA l z x y) = vcT rest s d (aop (opnR s.ρ (opds (AOp.arrA l z x y))) s.σ (AOp.arrA l z x y)) := fun _ _ _ _ => rfl
theorem vcFree_arrA : ∀ l z x y, vcFree E rest s d (AOp.arrA l z x y) = vcFr rest s d (aop s.ρ [] (AOp.arrA l z x y)) := fun _ _ _ _ => rfl
theorem vcBd_arrA : ∀ l z x y, vcBd E rest s d (AOp.arrA l z x y) = vcT rest s d (aop s.ρ s.σ (AOp.arrA l z x y)) := fun _ _ _ _ => rfl
theorem vcI_blit : ∀ k e z xs, vcI E rest s d (AOp.blit k e z xs) = vcT rest s d (aop s.ρ s.σ (AOp.blit k e z xs)) := fun _ _ _ _ => rfl
theorem vcIg_blit : ∀ k e z xs, vcIg E rest s d (AOp.blit k e z xs) = vcT rest s d (aop (opnR s.ρ (opds (AOp.blit k e z xs))) s.σ (AOp.blit k e z xs)) := fun _ _ _ _ => rfl
theorem vcFree_blit : ∀ k e z xs, vcFree E rest s d (AOp.blit k e z xs) = vcFr rest s d (aop s.ρ [] (AOp.blit k e z xs)) := fun _ _ _ _ => rfl
theorem vcBd_blit : ∀ k e z xs, vcBd E rest s d (AOp.blit k e z xs) = vcT rest s d (aop s.ρ s.σ (AOp.blit k e z xs)) := fun _ _ _ _ => rfl
theorem vcI_eqs : ∀ ks ng x y, vcI E rest s d (AOp.eqs ks ng x y) = vcT rest s d (aop s.ρ s.σ (AOp.eqs ks ng x y)) := fun _ _ _ _ => rfl
theorem vcIg_eqs : ∀ ks ng x y, vcIg E rest s d (AOp.eqs ks ng x y) = vcT rest s d (aop (opnR s.ρ (opds (AOp.eqs ks ng x y))) s.σ (AOp.eqs ks ng x y)) := fun _ _ _ _ => rfl
theorem vcFree_eqs : ∀ ks ng x y, vcFree E rest s d (AOp.eqs ks ng x y) = vcFr rest s d (aop s.ρ [] (AOp.eqs ks ng x y)) := fun _ _ _ _ => rfl
theorem vcBd_eqs : ∀ ks ng x y, vcBd E rest s d (AOp.eqs ks ng x y) = vcT rest s d (aop s.ρ s.σ (AOp.eqs ks ng x y)) := fun _ _ _ _ => rfl
theorem vcI_call : ∀ f as_, vcI E rest s d (AOp.call f as_) = vcC1 E rest s d f as_ (lk E.fc f) := fun _ _ => rfl
theorem vcIg_call : ∀ f as_, vcIg E rest s d (AOp.call f as_) = vcC1 E rest s d f as_ (lk E.fc f) := fun _ _ => rfl
theorem vcI_callv : ∀ x as_, vcI E rest s d (AOp.callv x as_) = vcCv E rest s d (ev s.ρ x) (evAll s.ρ as_) := fun _ _ => rfl
theorem vcIg_callv : ∀ x as_, vcIg E rest s d (AOp.callv x as_) = vcCv E rest s d (ev s.ρ x) (evAll s.ρ as_) := fun _ _ => rfl
theorem vcI_idxA : ∀ z x y, vcI E rest s d (AOp.idxA z x y) = vcIdxO rest s d z (ev s.ρ x) (ev s.ρ y) := fun _ _ _ => rfl
theorem vcIg_idxA : ∀ z x y, vcIg E rest s d (AOp.idxA z x y) = vcIdx rest s d z (ev (opnR s.ρ [x, y]) x) (ev (opnR s.ρ [x, y]) y) := fun _ _ _ => rfl
theorem vcI_idxS : ∀ x y, vcI E rest s d (AOp.idxS x y) = vcIdxS rest s d (ev s.ρ x) (ev s.ρ y) := fun _ _ => rfl
theorem vcIg_idxS : ∀ x y, vcIg E rest s d (AOp.idxS x y) = vcIdxS rest s d (ev (opnR s.ρ [x, y]) x) (ev (opnR s.ρ [x, y]) y) := fun _ _ => rfl
theorem vcI_slc : ∀ z x l h m, vcI E rest s d (AOp.slc z x l h m) = vcSlc rest s d z (ev s.ρ x) (evOpt s.ρ l) (evOpt s.ρ h) (evOpt s.ρ m) := fun _ _ _ _ _ => rfl
theorem vcIg_slc : ∀ z x l h m, vcIg E rest s d (AOp.slc z x l h m) = vcSlc rest s d z (ev s.ρ x) (evOpt s.ρ l) (evOpt s.ρ h) (evOpt s.ρ m) := fun _ _ _ _ _ => rfl
theorem vcI_slcS : ∀ x l h, vcI E rest s d (AOp.slcS x l h) = vcSlcS rest s d (ev s.ρ x) (evOpt s.ρ l) (evOpt s.ρ h) := fun _ _ _ => rfl
theorem vcIg_slcS : ∀ x l h, vcIg E rest s d (AOp.slcS x l h) = vcSlcS rest s d (ev s.ρ x) (evOpt s.ρ l) (evOpt s.ρ h) := fun _ _ _ => rfl
theorem vcFree_call : ∀ f as_, vcFree E rest s d (AOp.call f as_) = vcFrC rest s d as_ (lk E.fc f) := fun _ _ => rfl
theorem vcFree_idxA : ∀ z x y, vcFree E rest s d (AOp.idxA z x y) = vcIdx rest s d z (ev s.ρ x) (ev s.ρ y) := fun _ _ _ => rfl
theorem vcFree_idxS : ∀ x y, vcFree E rest s d (AOp.idxS x y) = vcIdxS rest s d (ev s.ρ x) (ev s.ρ y) := fun _ _ => rfl
theorem vcFree_slcS : ∀ x l h, vcFree E rest s d (AOp.slcS x l h) = vcSlcS rest s d (ev s.ρ x) (evOpt s.ρ l) (evOpt s.ρ h) := fun _ _ _ => rfl
theorem vcX_nil (bd X : List Nat) (K : St → Prop) (k : Nat) : vcX E bd X K k [] s = K s := rfl
theorem vcX_n (bd X : List Nat) (K : St → Prop) (k : Nat) (op : AOp) (is : List AIns) : vcX E bd X K k (⟨d, none, op⟩ :: is) s = vcX1 E (vcX E bd X K (k + 1) is) s d X op (bd.contains k) (bd.contains (k + 1000000)) (bd.contains (k + 2000000)) := rfl
theorem vcX_g (bd X : List Nat) (K : St → Prop) (k t : Nat) (want : Bool) (op : AOp) (is : List AIns) : vcX E bd X K k (⟨d, some (t, want), op⟩ :: is) s = vcXG E (vcX E bd X K (k + 1) is) s d X op want (bd.contains k) (bd.contains (k + 1000000)) (bd.contains (k + 2000000)) (lk s.ρ t) := rfl
theorem vcXG_bool (X : List Nat) (op : AOp) (want bd rd ex b : Bool) : vcXG E rest s d X op want bd rd ex (some (.iv (.bool b))) = ((b = want → vcX1 E rest s d X op bd rd ex) ∧ (b ≠ want → rest (s.put d .dead))) := rfl
theorem vcXG_dead (X : List Nat) (op : AOp) (want bd rd ex : Bool) : vcXG E rest s d X op want bd rd ex (some .dead) = rest (s.put d .dead) := rfl
theorem vcX1_b (X : List Nat) (op : AOp) (rd ex : Bool) : vcX1 E rest s d X op true rd ex = vcBd E (fun s' => (ex = false → sameAt s.σ s'.σ X) ∧ rest s') s d op := rfl
theorem vcX1_r (X : List Nat) (op : AOp) (ex : Bool) : vcX1 E rest s d X op false true ex = vcRd E rest s d X op := rfl
theorem vcX1_f (X : List Nat) (op : AOp) (ex : Bool) : vcX1 E rest s d X op false false ex = vcFree E rest s d op := rfl
theorem vcY_nil (X : List Nat) (K : St → Prop) : vcY E X K [] s = K s := rfl
theorem vcY_n (X : List Nat) (K : St → Prop) (op : AOp) (is : List AIns) : vcY E X K (⟨d, none, op⟩ :: is) s = vcY1 E (vcY E X K is) s d X op (isCr op) := rfl
theorem vcY_g (X : List Nat) (K : St → Prop) (t : Nat) (want : Bool) (op : AOp) (is : List AIns) : vcY E X K (⟨d, some (t, want), op⟩ :: is) s = vcYG E (vcY E X K is) s d X op want (isCr op) (lk s.ρ t) := rfl
theorem vcYG_bool (X : List Nat) (op : AOp) (want cr b : Bool) : vcYG E rest s d X op want cr (some (.iv (.bool b))) = ((b = want → vcY1 E rest s d X op cr) ∧ (b ≠ want → rest (s.put d .dead))) := rfl
theorem vcYG_dead (X : List Nat) (op : AOp) (want cr : Bool) : vcYG E rest s d X op want cr (some .dead) = rest (s.put d .dead) := rfl
theorem vcY1_c (X : List Nat) (op : AOp) : vcY1 E rest s d X op true = (X.contains (plOp op) = false ∧ vcCr rest s d (plOp op) (aop s.ρ s.σ op)) := rfl
theorem vcY1_r (X : List Nat) (op : AOp) : vcY1 E rest s d X op false = vcRd E rest s d X op := rfl
theorem vcCr_some (k : Nat) (r : TV) (σ1 : Slots) : vcCr rest s d k (some (r, σ1)) = vcCrP rest s d k r (lk σ1 k) := rfl
theorem vcCrP_some (k : Nat) (r : TV) (n : Nat) (it : Item) : vcCrP rest s d k r (some (n, it)) = (lk s.σ k = none ∧ rest ({ s with σ := upd s.σ k (n, it) }.put d r)) := rfl
theorem vcCr_guard (k : Nat) (c : Prop) [Decidable c] (a : Option (TV × Slots)) : vcCr rest s d k (if c then a else none) = (c ∧ vcCr rest s d k a) := by
  by_cases h : c <;> simp [h, vcCr]
theorem vcRd_idxA (X : List Nat) (sz : Nat) (x y : AOpd) : vcRd E rest s d X (.idxA sz x y) = vcRdI rest s d X sz (ev s.ρ x) (ev s.ρ y) := rfl
theorem vcRd_load (X : List Nat) (sz : Nat) (ag : Bool) (x : AOpd) : vcRd E rest s d X (.load sz ag x) = vcRdT rest s d X (rdPlaces s.ρ (.load sz ag x)) (aop s.ρ s.σ (.load sz ag x)) := rfl
theorem vcRd_len (X : List Nat) (b : Bool) (x : AOpd) : vcRd E rest s d X (.len b x) = vcRdT rest s d X (rdPlaces s.ρ (.len b x)) (aop s.ρ s.σ (.len b x)) := rfl
theorem vcRd_lenm (X : List Nat) (x : AOpd) : vcRd E rest s d X (.lenm x) = vcRdT rest s d X (rdPlaces s.ρ (.lenm x)) (aop s.ρ s.σ (.lenm x)) := rfl
theorem vcRd_build (X : List Nat) (zs : List IV) (ps : List (Nat × Nat × AOpd)) : vcRd E rest s d X (.build zs ps) = vcRdT rest s d X (rdPlaces s.ρ (.build zs ps)) (aop s.ρ s.σ (.build zs ps)) := rfl
theorem vcRdI_some (X : List Nat) (sz : Nat) (xs : List IV) (k : IntKind) (n : Int) : vcRdI rest s d X sz (some (.iv (.slice xs))) (some (.iv (.int k n))) = (0 ≤ n ∧ n < xs.length ∧ ∀ z, xs[n.toNat]? = some z → z.cells.length = sz ∧ rest (s.put d (.iv (.ref z)))) := rfl
theorem vcRdI_lst (X : List Nat) (sz k m : Nat) (kn : IntKind) (n : Int) : vcRdI rest s d X sz (some (.lst k m)) (some (.iv (.int kn n))) = vcRdL rest s d X k (idxL s.σ sz n k m) := rfl
theorem vcRdL_some (X : List Nat) (k : Nat) (r : TV) : vcRdL rest s d X k (some r) = (X.contains k = true ∧ rest (s.put d r)) := rfl
theorem vcRdL_guard (X : List Nat) (k : Nat) (c : Prop) [Decidable c] (a : Option TV) : vcRdL rest s d X k (if c then a else none) = (c ∧ vcRdL rest s d X k a) := by
  by_cases h : c <;> simp [h, vcRdL]
theorem vcRdT_some (X ps : List Nat) (r : TV) (σ' : Slots) : vcRdT rest s d X (some ps) (some (r, σ')) = (allIn ps X ∧ rest (s.put d r)) := rfl
theorem vcRd_mov (X : List Nat) : ∀ x, vcRd E rest s d X (AOp.mov x) = vcFree E rest s d (AOp.mov x) := fun _ => rfl
theorem vcRd_pick (X : List Nat) : ∀ c x y, vcRd E rest s d X (AOp.pick c x y) = vcFree E rest s d (AOp.pick c x y) := fun _ _ _ => rfl
theorem vcRd_pickb (X : List Nat) : ∀ c x y, vcRd E rest s d X (AOp.pickb c x y) = vcFree E rest s d (AOp.pickb c x y) := fun _ _ _ => rfl
theorem vcRd_bin (X : List Nat) : ∀ tb op x y, vcRd E rest s d X (AOp.bin tb op x y) = vcFree E rest s d (AOp.bin tb op x y) := fun _ _ _ _ => rfl
theorem vcRd_un (X : List Nat) : ∀ op x, vcRd E rest s d X (AOp.un op x) = vcFree E rest s d (AOp.un op x) := fun _ _ => rfl
theorem vcRd_conv (X : List Nat) : ∀ k x, vcRd E rest s d X (AOp.conv k x) = vcFree E rest s d (AOp.conv k x) := fun _ _ => rfl
theorem vcRd_ext (X : List Nat) : ∀ i x, vcRd E rest s d X (AOp.ext i x) = vcFree E rest s d (AOp.ext i x) := fun _ _ => rfl
theorem vcRd_fldA (X : List Nat) : ∀ o z a x, vcRd E rest s d X (AOp.fldA o z a x) = vcFree E rest s d (AOp.fldA o z a x) := fun _ _ _ _ => rfl
theorem vcRd_fld (X : List Nat) : ∀ o z a x, vcRd E rest s d X (AOp.fld o z a x) = vcFree E rest s d (AOp.fld o z a x) := fun _ _ _ _ => rfl
theorem vcRd_store (X : List Nat) : ∀ z x y, vcRd E rest s d X (AOp.store z x y) = vcFree E rest s d (AOp.store z x y) := fun _ _ _ => rfl
theorem vcRd_boxI (X : List Nat) : ∀ x, vcRd E rest s d X (AOp.boxI x) = vcFree E rest s d (AOp.boxI x) := fun _ => rfl
theorem vcRd_box (X : List Nat) : ∀ k x, vcRd E rest s d X (AOp.box k x) = vcFree E rest s d (AOp.box k x) := fun _ _ => rfl
theorem vcRd_alloc (X : List Nat) : ∀ k zs, vcRd E rest s d X (AOp.alloc k zs) = vcFree E rest s d (AOp.alloc k zs) := fun _ _ => rfl
theorem vcRd_bslice (X : List Nat) : ∀ z xs, vcRd E rest s d X (AOp.bslice z xs) = vcFree E rest s d (AOp.bslice z xs) := fun _ _ => rfl
theorem vcRd_app (X : List Nat) : ∀ k e z b x y, vcRd E rest s d X (AOp.app k e z b x y) = vcFree E rest s d (AOp.app k e z b x y) := fun _ _ _ _ _ _ => rfl
theorem vcRd_b2s (X : List Nat) : ∀ x, vcRd E rest s d X (AOp.b2s x) = vcFree E rest s d (AOp.b2s x) := fun _ => rfl
theorem vcRd_mks (X : List Nat) : ∀ k e z b v x c, vcRd E rest s d X (AOp.mks k e z b v x c) = vcFree E rest s d (AOp.mks k e z b v x c) := fun _ _ _ _ _ _ _ => rfl
theorem vcRd_blist (X : List Nat) : ∀ k e z, vcRd E rest s d X (AOp.blist k e z) = vcFree E rest s d (AOp.blist k e z) := fun _ _ _ => rfl
theorem vcRd_mm (X : List Nat) : ∀ m x y, vcRd E rest s d X (AOp.mm m x y) = vcFree E rest s d (AOp.mm m x y) := fun _ _ _ => rfl
theorem vcRd_nilck (X : List Nat) : ∀ x, vcRd E rest s d X (AOp.nilck x) = vcFree E rest s d (AOp.nilck x) := fun _ => rfl
theorem vcRd_look (X : List Nat) : ∀ kd z ok x y, vcRd E rest s d X (AOp.look kd z ok x y) = vcFree E rest s d (AOp.look kd z ok x y) := fun _ _ _ _ _ => rfl
theorem vcRd_mapset (X : List Nat) : ∀ kd x y z, vcRd E rest s d X (AOp.mapset kd x y z) = vcFree E rest s d (AOp.mapset kd x y z) := fun _ _ _ _ => rfl
theorem vcRd_mkmap (X : List Nat) : ∀ k kd, vcRd E rest s d X (AOp.mkmap k kd) = vcFree E rest s d (AOp.mkmap k kd) := fun _ _ => rfl
theorem vcRd_mkfn (X : List Nat) : ∀ f fs cs, vcRd E rest s d X (AOp.mkfn f fs cs) = vcFree E rest s d (AOp.mkfn f fs cs) := fun _ _ _ => rfl
theorem vcRd_arrV (X : List Nat) : ∀ l z a x y, vcRd E rest s d X (AOp.arrV l z a x y) = vcFree E rest s d (AOp.arrV l z a x y) := fun _ _ _ _ _ => rfl
theorem vcRd_arrA (X : List Nat) : ∀ l z x y, vcRd E rest s d X (AOp.arrA l z x y) = vcFree E rest s d (AOp.arrA l z x y) := fun _ _ _ _ => rfl
theorem vcRd_blit (X : List Nat) : ∀ k e z xs, vcRd E rest s d X (AOp.blit k e z xs) = vcFree E rest s d (AOp.blit k e z xs) := fun _ _ _ _ => rfl
theorem vcRd_eqs (X : List Nat) : ∀ ks ng x y, vcRd E rest s d X (AOp.eqs ks ng x y) = vcFree E rest s d (AOp.eqs ks ng x y) := fun _ _ _ _ => rfl
theorem vcRd_call (X : List Nat) : ∀ f as_, vcRd E rest s d X (AOp.call f as_) = vcFree E rest s d (AOp.call f as_) := fun _ _ => rfl
theorem vcRd_idxS (X : List Nat) : ∀ x y, vcRd E rest s d X (AOp.idxS x y) = vcFree E rest s d (AOp.idxS x y) := fun _ _ => rfl
theorem vcRd_slcS (X : List Nat) : ∀ x l h, vcRd E rest s d X (AOp.slcS x l h) = vcFree E rest s d (AOp.slcS x l h) := fun _ _ _ => rfl
theorem isCr_mov : ∀ x, isCr (AOp.mov x) = false := fun _ => rfl
theorem isCr_pick : ∀ c x y, isCr (AOp.pick c x y) = false := fun _ _ _ => rfl
theorem isCr_pickb : ∀ c x y, isCr (AOp.pickb c x y) = false := fun _ _ _ => rfl
theorem isCr_bin : ∀ tb op x y, isCr (AOp.bin tb op x y) = false := fun _ _ _ _ => rfl
theorem isCr_un : ∀ op x, isCr (AOp.un op x) = false := fun _ _ => rfl
theorem isCr_conv : ∀ k x, isCr (AOp.conv k x) = false := fun _ _ => rfl
theorem isCr_ext : ∀ i x, isCr (AOp.ext i x) = false := fun _ _ => rfl
theorem isCr_len : ∀ b x, isCr (AOp.len b x) = false := fun _ _ => rfl
theorem isCr_fldA : ∀ o z a x, isCr (AOp.fldA o z a x) = false := fun _ _ _ _ => rfl
theorem isCr_fld : ∀ o z a x, isCr (AOp.fld o z a x) = false := fun _ _ _ _ => rfl
theorem isCr_load : ∀ z a x, isCr (AOp.load z a x) = false := fun _ _ _ => rfl
theorem isCr_store : ∀ z x y, isCr (AOp.store z x y) = false := fun _ _ _ => rfl
theorem isCr_boxI : ∀ x, isCr (AOp.boxI x) = false := fun _ => rfl
theorem isCr_box : ∀ k x, isCr (AOp.box k x) = false := fun _ _ => rfl
theorem isCr_alloc : ∀ k zs, isCr (AOp.alloc k zs) = true := fun _ _ => rfl
theorem plOp_alloc : ∀ k zs, plOp (AOp.alloc k zs) = k := fun _ _ => rfl
theorem isCr_build : ∀ zs ps, isCr (AOp.build zs ps) = false := fun _ _ => rfl
theorem isCr_bslice : ∀ z xs, isCr (AOp.bslice z xs) = false := fun _ _ => rfl
theorem isCr_app : ∀ k e z b x y, isCr (AOp.app k e z b x y) = false := fun _ _ _ _ _ _ => rfl
theorem isCr_b2s : ∀ x, isCr (AOp.b2s x) = false := fun _ => rfl
theorem isCr_mks : ∀ k e z b v x c, isCr (AOp.mks k e z b v x c) = true := fun _ _ _ _ _ _ _ => rfl
theorem plOp_mks : ∀ k e z b v x c, plOp (AOp.mks k e z b v x c) = k := fun _ _ _ _ _ _ _ => rfl
theorem isCr_blist : ∀ k e z, isCr (AOp.blist k e z) = true := fun _ _ _ => rfl
theorem plOp_blist : ∀ k e z, plOp (AOp.blist k e z) = k := fun _ _ _ => rfl
theorem isCr_mm : ∀ m x y, isCr (AOp.mm m x y) = false := fun _ _ _ => rfl
theorem isCr_nilck : ∀ x, isCr (AOp.nilck x) = false := fun _ => rfl
theorem isCr_look : ∀ kd z ok x y, isCr (AOp.look kd z ok x y) = false := fun _ _ _ _ _ => rfl
theorem isCr_mapset : ∀ kd x y z, isCr (AOp.mapset kd x y z) = false := fun _ _ _ _ => rfl
theorem isCr_mkmap : ∀ k kd, isCr (AOp.mkmap k kd) = true := fun _ _ => rfl
theorem plOp_mkmap : ∀ k kd, plOp (AOp.mkmap k kd) = k := fun _ _ => rfl
theorem isCr_lenm : ∀ x, isCr (AOp.lenm x) = false := fun _ => rfl
theorem isCr_mkfn : ∀ f fs cs, isCr (AOp.mkfn f fs cs) = false := fun _ _ _ => rfl
theorem isCr_arrV : ∀ l z a x y, isCr (AOp.arrV l z a x y) = false := fun _ _ _ _ _ => rfl
theorem isCr_arrA : ∀ l z x y, isCr (AOp.arrA l z x y) = false := fun _ _ _ _ => rfl
theorem isCr_blit : ∀ k e z xs, isCr (AOp.blit k e z xs) = false := fun _ _ _ _ => rfl
theorem isCr_eqs : ∀ ks ng x y, isCr (AOp.eqs ks ng x y) = false := fun _ _ _ _ => rfl
theorem isCr_call : ∀ f as_, isCr (AOp.call f as_) = false := fun _ _ => rfl
theorem isCr_idxA : ∀ z x y, isCr (AOp.idxA z x y) = false := fun _ _ _ => rfl
theorem isCr_idxS : ∀ x y, isCr (AOp.idxS x y) = false := fun _ _ => rfl
theorem isCr_slcS : ∀ x l h, isCr (AOp.slcS x l h) = false := fun _ _ _ => rfl
theorem isCr_slc : ∀ z x l h m, isCr (AOp.slc z x l h m) = false := fun _ _ _ _ _ => rfl
def vcBd1 (E : Env) (rest : St → Prop) (s : St) (d : Option Nat) (f : FuncId) (as_ : List AOpd) : Option (List IV → Option IV) → Prop
  | some g => vcF1 rest s d g (callArgs s as_)
  | none => vcC3 E rest s d f as_ (lk E.lc f)
theorem vcBd_call : ∀ f as_, vcBd E rest s d (AOp.call f as_) = vcBd1 E rest s d f as_ (lk E.fc f) := by
  intro f as_
  cases h : lk E.fc f <;> simp only [vcBd, vcBd1, h]
theorem vcR_nil (K : St → Prop) : vcR E K [] s = K s := rfl
theorem vcR_n (K : St → Prop) (op : AOp) (is : List AIns) : vcR E K (⟨d, none, op⟩ :: is) s = vcI E (vcR E K is) s d op := rfl
theorem vcR_g (K : St → Prop) (t : Nat) (want : Bool) (op : AOp) (is : List AIns) : vcR E K (⟨d, some (t, want), op⟩ :: is) s = vcGd E (vcR E K is) s d op want (lk s.ρ t) := rfl
theorem vcD_nil (bd : List Nat) (K : St → Prop) (k : Nat) : vcD E bd K k [] s = K s := rfl
theorem vcD_n (bd : List Nat) (K : St → Prop) (k : Nat) (op : AOp) (is : List AIns) : vcD E bd K k (⟨d, none, op⟩ :: is) s = vcD1 E (vcD E bd K (k + 1) is) s d op (bd.contains k) := rfl
theorem vcD_g (bd : List Nat) (K : St → Prop) (k t : Nat) (want : Bool) (op : AOp) (is : List AIns) : vcD E bd K k (⟨d, some (t, want), op⟩ :: is) s = vcDG E (vcD E bd K (k + 1) is) s d op want (bd.contains k) (lk s.ρ t) := rfl
theorem vcT_guard (c : Prop) [Decidable c] (a : Option (TV × Slots)) : vcT rest s d (if c then a else none) = (c ∧ vcT rest s d a) := by
  by_cases h : c <;> simp [h, vcT]
theorem vcV_guard (c : Prop) [Decidable c] (a : Option IV) : vcV rest s d (if c then a else none) = (c ∧ vcV rest s d a) := by
  by_cases h : c <;> simp [h, vcV]
theorem vcO_guard (c : Prop) [Decidable c] (a) : vcO rest s d (if c then a else none) = (c ∧ vcO rest s d a) := by
  by_cases h : c <;> simp [h, vcO]
theorem vcL_guard (k n e sz : Nat) (c : Prop) [Decidable c] (a) : vcL rest s d k n e sz (if c then a else none) = (c ∧ vcL rest s d k n e sz a) := by
  by_cases h : c <;> simp [h, vcL]
theorem vcT_some (r : TV) (σ' : Slots) : vcT rest s d (some (r, σ')) = rest ({ s with σ := σ' }.put d r) := rfl
theorem vcT_none : vcT rest s d none = False := rfl
theorem vcV_some (r : IV) : vcV rest s d (some r) = rest (s.put d (.iv r)) := rfl
theorem vcV_none : vcV rest s d none = False := rfl
theorem vcO_some (e sz : Nat) (zs rets : List IV) : vcO rest s d (some (e, sz, zs, rets)) = rest ({ s with σ := upd s.σ (giftK d) (nxt s.σ (giftK d), .list e sz zs) }.put d (ownRes (giftK d) (nxt s.σ (giftK d)) rets)) := rfl
theorem vcO_none : vcO rest s d none = False := rfl
theorem vcL_some (k n e sz : Nat) (zs : List IV) : vcL rest s d k n e sz (some zs) = rest ({ s with σ := upd s.σ k (n + 1, .list e sz zs) }.put d (.lst k (n + 1))) := rfl
theorem vcL_none (k n e sz : Nat) : vcL rest s d k n e sz none = False := rfl
theorem vcF1_some (g : List IV → Option IV) (xs : List IV) (σ' : Slots) : vcF1 rest s d g (some (xs, σ')) = vcV rest { s with σ := σ' } d (g xs) := rfl
theorem vcO1_some (g : List IV → Option (Nat × Nat × List IV × List IV)) (xs : List IV) (σ' : Slots) : vcO1 rest s d g (some (xs, σ')) = vcO rest { s with σ := σ' } d (g xs) := rfl
theorem vcL1_some (g : Nat → Nat → List IV → List IV → Option (List IV)) (k n e sz : Nat) (xs ys : List IV) (σ1 : Slots) : vcL1 rest s d g (some (k, n, e, sz, xs, ys, σ1)) = vcL rest { s with σ := σ1 } d k n e sz (g e sz xs ys) := rfl
theorem argsL_cons (a0 : AOpd) (as_ : List AOpd) : argsL s (a0 :: as_) = callArgsL s a0 as_ := rfl
theorem vcC1_some (f : FuncId) (as_ : List AOpd) (g : List IV → Option IV) : vcC1 E rest s d f as_ (some g) = vcF1 rest s d g (callArgs s as_) := rfl
theorem vcC1_none (f : FuncId) (as_ : List AOpd) : vcC1 E rest s d f as_ none = vcC2 E rest s d f as_ (lk E.oc f) := rfl
theorem vcC2_some (f : FuncId) (as_ : List AOpd) (g : List IV → Option (Nat × Nat × List IV × List IV)) : vcC2 E rest s d f as_ (some g) = vcO1 rest s d g (callArgs s as_) := rfl
theorem vcC2_none (f : FuncId) (as_ : List AOpd) : vcC2 E rest s d f as_ none = vcC3 E rest s d f as_ (lk E.lc f) := rfl
theorem vcC3_some (f : FuncId) (as_ : List AOpd) (g : Nat → Nat → List IV → List IV → Option (List IV)) : vcC3 E rest s d f as_ (some g) = vcL1 rest s d g (argsL s as_) := rfl
theorem vcC3_none (f : FuncId) (as_ : List AOpd) : vcC3 E rest s d f as_ none = vcC4 E rest s d f as_ (lk E.gc f) := rfl
theorem vcC4_some (f : FuncId) (as_ : List AOpd) (g : List TV → Slots → Option (TV × Slots)) : vcC4 E rest s d f as_ (some g) = vcGv rest s d g (evAll s.ρ as_) := rfl
theorem vcC4_none (f : FuncId) (as_ : List AOpd) : vcC4 E rest s d f as_ none = vcCh rest s d (evAll s.ρ as_) (lk E.gr f) := rfl
theorem vcGv_some (g : List TV → Slots → Option (TV × Slots)) (vs : List TV) : vcGv rest s d g (some vs) = vcT rest s d (g vs s.σ) := rfl
theorem vcIdx_some (sz : Nat) (xs : List IV) (k : IntKind) (n : Int) : vcIdx rest s d sz (some (.iv (.slice xs))) (some (.iv (.int k n))) = (0 ≤ n ∧ n < xs.length ∧ ∀ z, xs[n.toNat]? = some z → z.cells.length = sz ∧ rest (s.put d (.iv (.ref z)))) := rfl
theorem vcIdxO_some (sz : Nat) (xs : List IV) (k : IntKind) (n : Int) : vcIdxO rest s d sz (some (.iv (.slice xs))) (some (.iv (.int k n))) = (0 ≤ n ∧ n < xs.length ∧ ∀ z, xs[n.toNat]? = some z → z.cells.length = sz ∧ rest (s.put d (.iv (.ref z)))) := rfl
theorem vcIdxO_lst (sz k m : Nat) (kn : IntKind) (n : Int) : vcIdxO rest s d sz (some (.lst k m)) (some (.iv (.int kn n))) = vcIdxL rest s d (idxL s.σ sz n k m) := rfl
theorem vcIdxL_some (r : TV) : vcIdxL rest s d (some r) = rest (s.put d r) := rfl
theorem vcIdxL_guard (c : Prop) [Decidable c] (a : Option TV) : vcIdxL rest s d (if c then a else none) = (c ∧ vcIdxL rest s d a) := by
  by_cases h : c <;> simp [h, vcIdxL]
theorem vcIdxS_some (b : ByteArray) (k : IntKind) (n : Int) : vcIdxS rest s d (some (.iv (.str b))) (some (.iv (.int k n))) = (0 ≤ n ∧ n < b.size ∧ ∀ z, b.data.toList[n.toNat]? = some z → rest (s.put d (.iv (.int .u8 z.toNat)))) := rfl
theorem vcSlc_some (sz : Nat) (v : TV) (l h m : Option Int) : vcSlc rest s d sz (some v) (some l) (some h) (some m) = vcSlc2 rest s d sz l h m (shut v s.σ) := rfl
theorem vcSlc2_some (sz : Nat) (l h m : Option Int) (xs : List IV) (σ' : Slots) : vcSlc2 rest s d sz l h m (some (.slice xs, σ')) = (oneSize sz xs = true ∧ 0 ≤ l.getD 0 ∧ l.getD 0 ≤ h.getD xs.length ∧ h.getD xs.length ≤ m.getD xs.length ∧ m.getD xs.length ≤ xs.length ∧ rest ({ s with σ := σ' }.put d (.iv (.slice (cut xs (l.getD 0).toNat (h.getD xs.length).toNat))))) := rfl
theorem vcSlcS_some (b : ByteArray) (l h : Option Int) : vcSlcS rest s d (some (.iv (.str b))) (some l) (some h) = (0 ≤ l.getD 0 ∧ l.getD 0 ≤ h.getD b.size ∧ h.getD b.size ≤ b.size ∧ rest (s.put d (.iv (.str (b.extract (l.getD 0).toNat (h.getD b.size).toNat))))) := rfl
theorem vcIf_some (op : AOp) (want : Bool) (g : TV) (x : Bool) (r : TV) : vcIf E rest s d op want g x (some (r, [])) = rest (s.put d (gwrap want g r)) := rfl
theorem vcIf_more (op : AOp) (want : Bool) (g : TV) (x : Bool) (r : TV) (y : Nat × Nat × Item) (σ : Slots) : vcIf E rest s d op want g x (some (r, y :: σ)) = ((x = true → vcIg E rest s d op) ∧ (x = false → rest (s.put d .dead))) := rfl
theorem vcIf_none (op : AOp) (want : Bool) (g : TV) (x : Bool) : vcIf E rest s d op want g x none = ((x = true → vcIg E rest s d op) ∧ (x = false → rest (s.put d .dead))) := rfl
theorem vcB_false (op : AOp) (want : Bool) (g : TV) (x : Bool) : vcB E rest s d op want g x false = vcIf E rest s d op want g x (aop (gρ2 want g s.ρ (opds op)) [] op) := rfl
theorem vcB_true (op : AOp) (want : Bool) (g : TV) (x : Bool) : vcB E rest s d op want g x true = ((x = true → vcIg E rest s d op) ∧ (x = false → rest (s.put d .dead))) := rfl
theorem vcGd_some (op : AOp) (want : Bool) (g : TV) : vcGd E rest s d op want (some g) = vcG0 E rest s d op want g E.split := rfl
theorem vcG0_t (op : AOp) (want : Bool) (g : TV) : vcG0 E rest s d op want g true = vcSp E rest s d op want g := rfl
theorem vcG0_f (op : AOp) (want : Bool) (g : TV) : vcG0 E rest s d op want g false = vcG2 E rest s d op want g (gcond want g) := rfl
theorem vcSp_bool (op : AOp) (want b : Bool) : vcSp E rest s d op want (.iv (.bool b)) = ((b = want → vcI E rest s d op) ∧ (b ≠ want → rest (s.put d .dead))) := rfl
theorem vcSp_dead (op : AOp) (want : Bool) : vcSp E rest s d op want .dead = rest (s.put d .dead) := rfl
theorem vcG2_some (op : AOp) (want : Bool) (g : TV) (x : Bool) : vcG2 E rest s d op want g (some x) = vcB E rest s d op want g x (partOp op) := rfl
theorem gcond_bool (want b : Bool) : gcond want (.iv (.bool b)) = some (b == want) := rfl
theorem gcond_ifb (want c b : Bool) : gcond want (.ifb c (.iv (.bool b))) = some (c && (b == want)) := rfl
theorem gcond_dead (want : Bool) : gcond want .dead = some false := rfl
theorem gwrap_bool (want b : Bool) (r : TV) : gwrap want (.iv (.bool b)) r = .ifb (b == want) r := rfl
theorem gwrap_ifb (want c b : Bool) (r : TV) : gwrap want (.ifb c (.iv (.bool b))) r = .ifb c (.ifb (b == want) r) := rfl
theorem gwrap_dead (want : Bool) (r : TV) : gwrap want .dead r = .dead := rfl
theorem gopen_bool (want b : Bool) (v : TV) : gopen want (.iv (.bool b)) v = openV (b == want) v := rfl
def gopen2 (x : Bool) : Option TV → Option TV
  | some v => openV x v
  | none => none
theorem gopen_ifb (want c b : Bool) (v : TV) : gopen want (.ifb c (.iv (.bool b))) v = gopen2 (b == want) (openV c v) := by
  unfold gopen gopen2; rfl
theorem gopen2_some (x : Bool) (v : TV) : gopen2 x (some v) = openV x v := rfl
theorem gopen2_none (x : Bool) : gopen2 x none = none := rfl
def gρc (n : Nat) (l : List (Nat × TV)) : Option TV → List (Nat × TV)
  | some r => (n, r) :: l
  | none => l
def gρb (want : Bool) (g : TV) (n : Nat) (l : List (Nat × TV)) : Option TV → List (Nat × TV)
  | some v => gρc n l (gopen want g v)
  | none => l
theorem gρc_some (n : Nat) (l : List (Nat × TV)) (r : TV) : gρc n l (some r) = (n, r) :: l := rfl
theorem gρc_none (n : Nat) (l : List (Nat × TV)) : gρc n l none = l := rfl
theorem gρb_some (want : Bool) (g : TV) (n : Nat) (l : List (Nat × TV)) (v : TV) : gρb want g n l (some v) = gρc n l (gopen want g v) := rfl
theorem gρb_none (want : Bool) (g : TV) (n : Nat) (l : List (Nat × TV)) : gρb want g n l none = l := rfl
theorem gρ2_nil (want : Bool) (g : TV) (ρ : List (Nat × TV)) : gρ2 want g ρ [] = [] := rfl
theorem gρ2_c (want : Bool) (g : TV) (ρ : List (Nat × TV)) (x : IV) (l : List AOpd) : gρ2 want g ρ (.c x :: l) = gρ2 want g ρ l := rfl
theorem gρ2_t (want : Bool) (g : TV) (ρ : List (Nat × TV)) (n : Nat) (l : List AOpd) : gρ2 want g ρ (.t n :: l) = gρb want g n (gρ2 want g ρ l) (lk ρ n) := by
  simp only [gρ2, gρb]
  cases lk ρ n with
  | none => rfl
  | some v => simp only [gρc]; cases gopen want g v <;> rfl
theorem vcDG_dead (op : AOp) (want bd : Bool) : vcDG E rest s d op want bd (some .dead) = rest (s.put d .dead) := rfl
theorem vcFr_some (r : TV) : vcFr rest s d (some (r, [])) = rest (s.put d r) := rfl
theorem vcFr_none : vcFr rest s d none = False := rfl
theorem vcFrF_some (g : List IV → Option IV) (xs : List IV) : vcFrF rest s d g (some (xs, [])) = vcV rest s d (g xs) := rfl
theorem vcFrC_some (as_ : List AOpd) (g : List IV → Option IV) : vcFrC rest s d as_ (some g) = vcFrF rest s d g (callArgs { s with σ := [] } as_) := rfl
theorem vcFrC_none (as_ : List AOpd) : vcFrC rest s d as_ none = False := rfl
theorem vcBd1_some (f : FuncId) (as_ : List AOpd) (g : List IV → Option IV) : vcBd1 E rest s d f as_ (some g) = vcF1 rest s d g (callArgs s as_) := rfl
theorem vcBd1_none (f : FuncId) (as_ : List AOpd) : vcBd1 E rest s d f as_ none = vcC3 E rest s d f as_ (lk E.lc f) := rfl
theorem vcD1_true (op : AOp) : vcD1 E rest s d op true = vcBd E rest s d op := rfl
theorem vcD1_false (op : AOp) : vcD1 E rest s d op false = vcFree E rest s d op := rfl
theorem vcDG_bool (op : AOp) (want bd b : Bool) : vcDG E rest s d op want bd (some (.iv (.bool b))) = ((b = want → vcD1 E rest s d op bd) ∧ (b ≠ want → rest (s.put d .dead))) := rfl
theorem vcEnd_some (Q : IV → Prop) (x : IV) (σ : Slots) : vcEnd Q (some (x, σ)) = Q x := rfl
theorem vcEndO_lst (e sz : Nat) (zs rets : List IV) (σ : Slots) (k m : Nat) (vs : List TV) : vcEndO e sz zs rets σ (some (.lst k m :: vs)) = (lk σ k = some (m, .list e sz zs) ∧ vs = rets.map .iv) := rfl
theorem vcEndO_nil (e sz : Nat) (zs rets : List IV) (σ : Slots) (vs : List TV) : vcEndO e sz zs rets σ (some (.iv .nil :: vs)) = (zs = [] ∧ vs = rets.map .iv) := rfl
theorem ownRes_nil (k m : Nat) : ownRes k m [] = .lst k m := rfl
theorem ownRes_cons (k m : Nat) (r : IV) (rs : List IV) : ownRes k m (r :: rs) = .tup (.lst k m :: .iv r :: rs.map .iv) := rfl
end
/-- Bytes out of a list of values. -/
def unB' : IV → Option UInt8
  | .int .u8 n => if 0 ≤ n ∧ n < 256 then some (UInt8.ofNat n.toNat) else none
  | _ => none
def unBs : List IV → Option (List UInt8)
  | [] => some []
  | x :: xs => match unB' x, unBs xs with
    | some b, some bs => some (b :: bs)
    | _, _ => none
theorem unB'_enc (b : UInt8) : unB' (encB b) = some b := by
  have h : b.toNat < 256 := b.toNat_lt
  simp only [unB', encB]
  rw [if_pos (by omega)]
  simp
theorem unBs_enc : ∀ b : List UInt8, unBs (b.map encB) = some b
  | [] => rfl
  | b :: bs => by simp only [List.map_cons, unBs, unB'_enc, unBs_enc bs]
theorem unBs_enc_inv : ∀ {xs : List IV} {b : List UInt8}, unBs xs = some b → xs = b.map encB
  | [], b, h => by simp [unBs] at h; subst h; rfl
  | x :: xs, b, h => by
    simp only [unBs] at h
    split at h
    · rename_i u bs hu hbs
      injection h with h; subst h
      rw [unBs_enc_inv hbs, List.map_cons]
      congr 1
      unfold unB' at hu
      split at hu
      · split at hu
        · rename_i n hn
          injection hu with hu; subst hu
          simp only [encB, IV.int.injEq, true_and]
          rw [UInt8.toNat_ofNat']
          have : n.toNat % 2 ^ 8 = n.toNat := Nat.mod_eq_of_lt (by omega)
          rw [this]; omega
        · cases hu
      · cases hu
    · cases h
theorem oneSize_append (sz : Nat) : ∀ (xs ys : List IV), oneSize sz (xs ++ ys) = (oneSize sz xs && oneSize sz ys)
  | [], ys => by simp [oneSize]
  | x :: xs, ys => by simp only [List.cons_append, oneSize, oneSize_append sz xs ys, Bool.and_assoc]
theorem fdiv_pow (n k : Nat) : Int.fdiv (n : Int) (2 ^ k) = ((n / 2 ^ k : Nat) : Int) := by
  rw [show ((2 : Int) ^ k) = ((2 ^ k : Nat) : Int) by simp]
  rw [Int.fdiv_eq_ediv_of_nonneg _ (Int.natCast_nonneg _)]; exact (Int.natCast_ediv _ _).symm
theorem shf_shr (k : IntKind) (a b : Int) : shfOp .shr k a b = if b < 0 then none else some (.int k (a.fdiv (2 ^ (min b.toNat k.bits)))) := rfl
theorem shf_shl (k : IntKind) (a b : Int) : shfOp .shl k a b = if b < 0 then none else some (.int k (k.wrap (a * 2 ^ (min b.toNat k.bits)))) := rfl
theorem bits_u64 : IntKind.u64.bits = 64 := rfl
theorem bits_i64 : IntKind.i64.bits = 64 := rfl
theorem bits_u32 : IntKind.u32.bits = 32 := rfl
theorem bits_u8 : IntKind.u8.bits = 8 := rfl
theorem natc0 (x : Nat) : ((x : Int) = 0) = (x = 0) := propext ⟨fun h => by omega, fun h => by omega⟩
theorem natc1 (x : Nat) : ((x : Int) = 1) = (x = 1) := propext ⟨fun h => by omega, fun h => by omega⟩
theorem natc2 (x : Nat) : ((x : Int) = 2) = (x = 2) := propext ⟨fun h => by omega, fun h => by omega⟩
theorem natc3 (x : Nat) : ((x : Int) = 3) = (x = 3) := propext ⟨fun h => by omega, fun h => by omega⟩
theorem natc4 (x : Nat) : ((x : Int) = 4) = (x = 4) := propext ⟨fun h => by omega, fun h => by omega⟩
theorem natc5 (x : Nat) : ((x : Int) = 5) = (x = 5) := propext ⟨fun h => by omega, fun h => by omega⟩
theorem natc6 (x : Nat) : ((x : Int) = 6) = (x = 6) := propext ⟨fun h => by omega, fun h => by omega⟩
theorem natc7 (x : Nat) : ((x : Int) = 7) = (x = 7) := propext ⟨fun h => by omega, fun h => by omega⟩
theorem natc8 (x : Nat) : ((x : Int) = 8) = (x = 8) := propext ⟨fun h => by omega, fun h => by omega⟩
theorem natc9 (x : Nat) : ((x : Int) = 9) = (x = 9) := propext ⟨fun h => by omega, fun h => by omega⟩
theorem natc10 (x : Nat) : ((x : Int) = 10) = (x = 10) := propext ⟨fun h => by omega, fun h => by omega⟩
theorem natc11 (x : Nat) : ((x : Int) = 11) = (x = 11) := propext ⟨fun h => by omega, fun h => by omega⟩
theorem natc12 (x : Nat) : ((x : Int) = 12) = (x = 12) := propext ⟨fun h => by omega, fun h => by omega⟩
theorem natc13 (x : Nat) : ((x : Int) = 13) = (x = 13) := propext ⟨fun h => by omega, fun h => by omega⟩
theorem natc14 (x : Nat) : ((x : Int) = 14) = (x = 14) := propext ⟨fun h => by omega, fun h => by omega⟩
theorem natc15 (x : Nat) : ((x : Int) = 15) = (x = 15) := propext ⟨fun h => by omega, fun h => by omega⟩
theorem natc16 (x : Nat) : ((x : Int) = 16) = (x = 16) := propext ⟨fun h => by omega, fun h => by omega⟩
theorem natc17 (x : Nat) : ((x : Int) = 17) = (x = 17) := propext ⟨fun h => by omega, fun h => by omega⟩
theorem natc18 (x : Nat) : ((x : Int) = 18) = (x = 18) := propext ⟨fun h => by omega, fun h => by omega⟩
theorem natc19 (x : Nat) : ((x : Int) = 19) = (x = 19) := propext ⟨fun h => by omega, fun h => by omega⟩
theorem natc20 (x : Nat) : ((x : Int) = 20) = (x = 20) := propext ⟨fun h => by omega, fun h => by omega⟩
theorem str_beq (a b : ByteArray) : (a.toList == b.toList) = decide (a = b) := by
  have e : a.toList = b.toList ↔ a = b := by
    constructor
    · intro h
      have h1 : a.data.toList = b.data.toList := by rw [← Lib.toList_data, ← Lib.toList_data]; exact h
      have h2 : a.data = b.data := Array.toList_inj.1 h1
      cases a; cases b; simp at h2; rw [h2]
    · rintro rfl; rfl
  by_cases h : a = b
  · subst h; simp
  · have : ¬ a.toList = b.toList := fun h' => h (e.1 h')
    simp [h, this]
theorem strOp_eql (a b : ByteArray) : strOp .eql a b = some (.bool (decide (a = b))) := by simp only [strOp, str_beq]
theorem strOp_neq (a b : ByteArray) : strOp .neq a b = some (.bool (!decide (a = b))) := by simp only [strOp, str_beq]
theorem strOp_add (a b : ByteArray) : strOp .add a b = if ((a.size + b.size : Nat) : Int) > IntKind.i64.max then none else some (.str (a ++ b)) := rfl
theorem mkB_inj (a b : List UInt8) : ((⟨a.toArray⟩ : ByteArray) = ⟨b.toArray⟩) = (a = b) := by simp
theorem encB_inj {a b : UInt8} : encB a = encB b ↔ a = b := by
  constructor
  · intro h; simp only [encB, IV.int.injEq, true_and] at h; exact UInt8.toNat_inj.1 (by omega)
  · rintro rfl; rfl
theorem mapB_inj {a b : List UInt8} : a.map encB = b.map encB ↔ a = b := by
  constructor
  · intro h; exact (List.map_inj_right (fun x y h => encB_inj.1 h)).1 h
  · rintro rfl; rfl
attribute [go_sem] vcAp_f vcAp_nil vcAp_lst vcI_mov vcIg_mov vcFree_mov vcBd_mov vcI_pick vcIg_pick vcFree_pick vcBd_pick vcI_pickb vcIg_pickb vcFree_pickb vcBd_pickb vcI_bin vcIg_bin vcFree_bin vcBd_bin vcI_un vcIg_un vcFree_un vcBd_un vcI_conv vcIg_conv vcFree_conv vcBd_conv vcI_ext vcIg_ext vcFree_ext vcBd_ext vcI_len vcIg_len vcFree_len vcBd_len vcI_fldA vcIg_fldA vcFree_fldA vcBd_fldA vcI_fld vcIg_fld vcFree_fld vcBd_fld vcI_load vcIg_load vcFree_load vcBd_load vcI_store vcIg_store vcFree_store vcBd_store vcI_boxI vcIg_boxI vcFree_boxI vcBd_boxI vcI_box vcIg_box vcFree_box vcBd_box vcI_alloc vcIg_alloc vcFree_alloc vcBd_alloc vcI_build vcIg_build vcFree_build vcBd_build vcI_bslice vcIg_bslice vcFree_bslice vcBd_bslice vcI_app vcIg_app vcFree_app vcBd_app vcI_b2s vcIg_b2s vcFree_b2s vcBd_b2s vcI_mks vcIg_mks vcFree_mks vcBd_mks vcI_blist vcIg_blist vcFree_blist vcBd_blist vcI_mm vcIg_mm vcFree_mm vcBd_mm vcI_nilck vcIg_nilck vcFree_nilck vcBd_nilck vcI_look vcIg_look vcFree_look vcBd_look vcI_mapset vcIg_mapset vcFree_mapset vcBd_mapset vcI_mkmap vcIg_mkmap vcFree_mkmap vcBd_mkmap vcI_lenm vcIg_lenm vcFree_lenm vcBd_lenm vcI_mkfn vcIg_mkfn vcFree_mkfn vcBd_mkfn vcI_arrV vcIg_arrV vcFree_arrV vcBd_arrV vcI_arrA vcIg_arrA vcFree_arrA vcBd_arrA vcI_blit vcIg_blit vcFree_blit vcBd_blit vcI_eqs vcIg_eqs vcFree_eqs vcBd_eqs vcI_call vcIg_call vcI_callv vcIg_callv vcI_idxA vcIg_idxA vcI_idxS vcIg_idxS vcI_slc vcIg_slc vcI_slcS vcIg_slcS vcFree_call vcFree_idxA vcFree_idxS vcFree_slcS vcRd_mov vcRd_pick vcRd_pickb vcRd_bin vcRd_un vcRd_conv vcRd_ext vcRd_fldA vcRd_fld vcRd_store vcRd_boxI vcRd_box vcRd_alloc vcRd_bslice vcRd_app vcRd_b2s vcRd_mks vcRd_blist vcRd_mm vcRd_nilck vcRd_look vcRd_mapset vcRd_mkmap vcRd_mkfn vcRd_arrV vcRd_arrA vcRd_blit vcRd_eqs vcRd_call vcRd_idxS vcRd_slcS isCr_mov isCr_pick isCr_pickb isCr_bin isCr_un isCr_conv isCr_ext isCr_len isCr_fldA isCr_fld isCr_load isCr_store isCr_boxI isCr_box isCr_alloc plOp_alloc isCr_build isCr_bslice isCr_app isCr_b2s isCr_mks plOp_mks isCr_blist plOp_blist isCr_mm isCr_nilck isCr_look isCr_mapset isCr_mkmap plOp_mkmap isCr_lenm isCr_mkfn isCr_arrV isCr_arrA isCr_blit isCr_eqs isCr_call isCr_idxA isCr_idxS isCr_slcS isCr_slc vcIdxO_some vcIdxO_lst vcIdxL_some vcIdxL_guard vcG0_t vcG0_f vcSp_bool vcSp_dead vcX_nil vcX_n vcX_g vcXG_bool vcXG_dead vcX1_b vcX1_r vcX1_f vcY_nil vcY_n vcY_g vcYG_bool vcYG_dead vcY1_c vcY1_r vcCr_some vcCrP_some vcCr_guard vcRd_idxA vcRd_load vcRd_len vcRd_lenm vcRd_build vcRdI_some vcRdI_lst vcRdL_some vcRdL_guard vcRdT_some vcDr2_f vcDr2_x vcDr2_y xsOf anyRd List.any_cons List.any_nil rdPlaces placeT List.flatMap_cons List.flatMap_nil allIn sameAt endsGC_ret endsGC_normal vcEndG_some lk_upd vcBd_call vcR_nil vcR_n vcR_g vcD_nil vcD_n vcD_g vc_skip vc_region vc_draw vc_seq vc_block vc_exit vc_scope vc_label vc_ret vc_ext vc_cond vcK_true vcK_false vcK_bool thenC_normal thenC_exit thenC_ret blockC_normal blockC_exit blockC_ret endsFC_ret endsFC_normal endsOC_ret endsOC_normal vcT_some vcT_none vcV_some vcV_none vcO_some vcO_none vcL_some vcL_none vcF1_some vcO1_some vcL1_some argsL_cons vcC1_some vcC1_none vcC2_some vcC2_none vcC3_some vcC3_none vcC4_some vcC4_none vcGv_some vcIdx_some vcIdxS_some vcSlc_some vcSlc2_some vcSlcS_some vcIf_some vcIf_more vcIf_none vcB_true vcB_false vcGd_some vcG2_some gcond_bool gcond_ifb gcond_dead gwrap_bool gwrap_ifb gwrap_dead gopen_bool gopen_ifb gopen2_some gopen2_none gρc_some gρc_none gρb_some gρb_none gρ2_nil gρ2_c gρ2_t vcDG_dead vcFr_some vcFr_none vcFrF_some vcFrC_some vcFrC_none vcBd1_some vcBd1_none vcD1_true vcD1_false vcDG_bool vcEnd_some vcEndO_lst vcEndO_nil ownRes_nil ownRes_cons vcT_guard vcV_guard vcO_guard vcL_guard partOp giftK nilRes unBs_enc opnR gρ openV pickB opds aop ev evOpt evAll callArgs callArgsL shutAll shut nrm nrm0 nrm1 St.put lk upd nxt bin2 un1 intOp lenOf isStr isBoolIV notNil IV.cells fldA fldV partIV partTV loadOf storeOf cellsOf TV.cells? mkAgg ivsOf splice fillTV dstOf dstOf0 srcOf srcOf0 unIf isNilS retOf retVals oneOrTup List.map_cons List.map_nil List.length_cons List.length_nil List.length_map Option.map_some Bool.not_true Bool.not_false Bool.true_and Bool.false_and Bool.and_true Bool.and_false Bool.false_eq_true if_true if_false decide_true decide_false List.contains_nil List.contains_cons eq_self Int.toNat_natCast Option.getD_some Option.getD_none and_true true_and List.getElem?_cons_zero List.getElem?_cons_succ List.drop_zero List.drop_succ_cons List.take_succ_cons List.take_zero List.nil_append List.cons_append Int.natCast_nonneg Int.natCast_inj Int.ofNat_lt Int.ofNat_le Bool.cond_false_right Bool.cond_true_left Bool.cond_false_left Bool.cond_true_right cond_true cond_false beq_true beq_false Bool.not_eq_true beq_self_eq_true oneSize Nat.mul_one List.length_append Int.toNat_zero List.replicate_zero Int.cast_ofNat_Int Int.mul_one Bool.or_false Bool.false_or Bool.true_or Bool.or_true Bool.and_self Bool.or_self vcCh vcAsk eqs eqAgg vcCv vcCv2 vcCvR fnParts strOp_eql strOp_neq strOp_add mkB_inj unB_enc natc0 natc1 natc2 natc3 natc4 natc5 natc6 natc7 natc8 natc9 natc10 natc11 natc12 natc13 natc14 natc15 natc16 natc17 natc18 natc19 natc20 Nat.min_def oneSize_append oneSize_bytes fdiv_pow shf_shr shf_shl bits_u64 bits_i64 bits_u32 bits_u8 List.cons.injEq TV.iv.injEq IV.int.injEq IV.bool.injEq IV.slice.injEq IV.tup.injEq IV.agg.injEq IV.str.injEq Option.some.injEq Prod.mk.injEq Item.list.injEq TV.lst.injEq TV.agg.injEq mapB_inj lookOf entsOf keyKind mapsetOf idxL tcells loadT storeT putItem unC dstT srcT litCells lenT lenM Ag.arrA decide_eq_true_eq Bool.or_eq_true Bool.and_eq_true Bool.or_eq_false_iff Bool.and_eq_false_imp decide_eq_false_iff_not ne_eq not_true_eq_false not_false_eq_true forall_const true_imp_iff false_implies implies_true imp_self Bool.not_eq_true' Bool.not_eq_false' Bool.not_eq_false Int.not_lt Int.not_le
end Go.Proofs.Ytfmeedphpcjkmaa.Ag
