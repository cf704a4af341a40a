/- The variables that the rows list, with what they hold. -/
import Derived.Test.YtfghmaheokgceaaGreatDoorRows
import Derived.LaidByTextLater
import Derived.SevenTiedAt
namespace Go.Proofs.YtfghmaheokgceaaGreatDoor
open Go
def laidT : List (String × DataW Unit) := [("tiltyard/elo.expected", Rows.laid_tiltyard_elo_expected), ("tiltyard/elo.scores", Rows.laid_tiltyard_elo_scores), ("tiltyard/sha.first", Rows.laid_tiltyard_sha_first), ("tiltyard/sha.rounds", Rows.laid_tiltyard_sha_rounds), ("tiltyard/penal.ladder", Rows.laid_tiltyard_penal_ladder), ("tiltyard/verb.requests", Rows.laid_tiltyard_verb_requests), ("tiltyard/verb.replies", Rows.laid_tiltyard_verb_replies), ("tiltyard/verb.events", Rows.laid_tiltyard_verb_events), ("tiltyard/verb.orders", Rows.laid_tiltyard_verb_orders), ("tiltyard/verb.reports", Rows.laid_tiltyard_verb_reports)]
end Go.Proofs.YtfghmaheokgceaaGreatDoor
